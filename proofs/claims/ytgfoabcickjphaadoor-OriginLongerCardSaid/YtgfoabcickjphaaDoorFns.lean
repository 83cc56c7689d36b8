/- Printed by gen.py: the Go functions as plain functions, and that the code does what they say. -/
import Derived.Test.YtgfoabcickjphaaDoorChecked
import Derived.Test.YtgfoabcickjphaaDoorVcYB
import Derived.Test.YtgfoabcickjphaaDoorVcZ
import Derived.KernelRfl
import Derived.Test.YtgfoabcickjphaaDoorVcMD
import Derived.Test.YtgfoabcickjphaaDoorVcMQ
import Derived.Test.YtgfoabcickjphaaDoorVcSG
import Derived.Test.YtgfoabcickjphaaDoorFnsC
import Derived.Test.YtgfoabcickjphaaDoorExt
import Derived.Test.YtgfoabcickjphaaDoorVcGl
import Derived.Test.YtgfoabcickjphaaDoorVcWS
namespace Go.Proofs.YtgfoabcickjphaaDoor
open Go Go.Vc
open Tryd
set_option maxHeartbeats 4000000
set_option maxRecDepth 100000
noncomputable def exchangepointlaw22_awake : Option (Bool) :=
 (exchangepointlaw22_awake_1 (0 : Int) (8 : Int)).bind fun r1 =>
 (exchangepointref21_Of ([r1] : List api_Prefix) ([] : List api_Span)).bind fun r2 =>
 (exchangepointlaw22_awake_1 (1 : Int) (16 : Int)).bind fun r3 =>
 (exchangepointref21_Of ([r3] : List api_Prefix) ([] : List api_Span)).bind fun r4 =>
 (exchangepointlaw22_awake_1 (1 : Int) (16 : Int)).bind fun r5 =>
 (origin_Payloads ([(api_Cert.mk (1 : Int) (1 : Int) (0 : Int) (9 : Int) r2.1), (api_Cert.mk (2 : Int) (1 : Int) (0 : Int) (9 : Int) r4.1)] : List api_Cert) ([(api_Signed.mk (2 : Int) (7 : Int) (0 : Int) (9 : Int) ([(api_Object.mk r5 (16 : Int) (7 : Int))] : List api_Object))] : List api_Signed) ([(1 : Int)] : List Int) (5 : Int)).bind fun r6 =>
 (exchangepointlaw22_awake_1 (1 : Int) (16 : Int)).bind fun r7 =>
 (origin_State r6.1 r7 (7 : Int)).bind fun r8 =>
 (exchangepointlaw22_awake_1 (1 : Int) (16 : Int)).bind fun r9 =>
 (origin_State r6.1 r9 (8 : Int)).bind fun r10 =>
 some ((((r6.2 == (0 : Int)) && ((r6.1.length : Int) == (1 : Int))) && (r8.1 == (1 : Int))) && (r10.1 == (2 : Int)))
theorem exchangepointlaw22_awake_ac (r : Bool) (h : exchangepointlaw22_awake = some r) : AC Tryd.prog 10 [] [(500, (.know (globF 0 [82, 122, 123]))), (501, (.know (globF 1 [77, 124, 125])))] (.d (.bool r)) [(500, some (.know (globF 0 [82, 122, 123]))), (501, some (.know (globF 1 [77, 124, 125])))] := by
 refine AC.of_code2 Tryd.func10 rfl rfl (Nat.le_of_ble_eq_true (by rfl)) fun B hB hN => ?_
 have L {d : Nat} (h : Nat.blt d Tryd.f10.ntmps = true) : d < B.N := ltN hN h
 delta exchangepointlaw22_awake at h
 refine sr (c (OpJ.assign (L rfl) (Opd.bool false)) rfl cn) ?_
 refine sr (c (OpJ.assign (L rfl) (Opd.func 26)) rfl cn) ?_
 obtain ⟨r1, hr1, h⟩ := bindS h
 obtain ⟨r2, hr2, h⟩ := bindS h
 refine sr (c (mv hN (q 1)) rfl (cg (OpJ.callVal (args := [(i6 0), (i6 (8 : Int))]) (caps := []) hB fnOk26 [] (exchangepointlaw22_awake_1_ac (0 : Int) (8 : Int) r1 hr1) (by kernel_rfl) (L rfl) (by kernel_rfl) (by kernel_rfl) (OpdL.cons (Opd.int .i64 (0)) (OpdL.cons (Opd.int .i64 (8)) OpdL.nil))) rfl (c (OpJ.buildSlice underlying49 tyS44 tyZD44 (by rfl) (by decide) (by decide) (Opds.cons (q 15) Opds.nil) (by kernel_rfl) (es := ([(e_api_Prefix r1)] : List D)) (by rfl) (by rfl) (by kernel_rfl) (by simp) (L rfl)) rfl (cg (cf hB fnOk19 (exchangepointref21_Of_ac ([r1] : List api_Prefix) ([] : List api_Span) r2 hr2) (L rfl) (OpdL.cons (q 16) (OpdL.cons (Opd.tw Opd.nils (Tw.leaf ⟨_, (Co.nils 2), rfl⟩)) OpdL.nil))) rfl (c (mv hN (q 17)) rfl (c (OpJ.extract (by rfl) rfl (L rfl) (q 13)) rfl (c (OpJ.extract (by rfl) rfl (L rfl) (q 13)) rfl (cg (OpJ.alloc hB tyZ26 (nm := 1002) (by decide) (L rfl)) rfl (cg (sB tyS26 (q 2) (q 18)) rfl (c (OpJ.assign (L rfl) (q 19)) rfl cn)))))))))) ?_
 obtain ⟨r3, hr3, h⟩ := bindS h
 obtain ⟨r4, hr4, h⟩ := bindS h
 refine sr (c (mv hN (q 1)) rfl (cg (OpJ.callVal (args := [(i6 1), (i6 (16 : Int))]) (caps := []) hB fnOk26 [] (exchangepointlaw22_awake_1_ac (1 : Int) (16 : Int) r3 hr3) (by kernel_rfl) (L rfl) (by kernel_rfl) (by kernel_rfl) (OpdL.cons (Opd.int .i64 (1)) (OpdL.cons (Opd.int .i64 (16)) OpdL.nil))) rfl (c (OpJ.buildSlice underlying49 tyS44 tyZD44 (by rfl) (by decide) (by decide) (Opds.cons (q 22) Opds.nil) (by kernel_rfl) (es := ([(e_api_Prefix r3)] : List D)) (by rfl) (by rfl) (by kernel_rfl) (by simp) (L rfl)) rfl (cg (cf hB fnOk19 (exchangepointref21_Of_ac ([r3] : List api_Prefix) ([] : List api_Span) r4 hr4) (L rfl) (OpdL.cons (q 23) (OpdL.cons (Opd.tw Opd.nils (Tw.leaf ⟨_, (Co.nils 2), rfl⟩)) OpdL.nil))) rfl (c (mv hN (q 24)) rfl (c (OpJ.extract (by rfl) rfl (L rfl) (q 20)) rfl (c (OpJ.extract (by rfl) rfl (L rfl) (q 20)) rfl (cg (OpJ.alloc hB tyZ26 (nm := 1004) (by decide) (L rfl)) rfl (cg (sB tyS26 (q 4) (q 25)) rfl (c (OpJ.assign (L rfl) (q 26)) rfl cn)))))))))) ?_
 refine sr (c (lb hN 26 _ _ tyS26 (At.here _) (q 2)) rfl (c (OpJ.coe (v := (.st [(i6 1), (i6 1), (i6 0), (i6 (9 : Int)), (.d (e_api_Resources r2.1))])) (y := (.st [(.int .i64 1), (.int .i64 1), (.int .i64 0), (.int .i64 (9 : Int)), (e_api_Resources r2.1)])) (Co.st (CoL.cons (Co.d _) (CoL.cons (Co.d _) (CoL.cons (Co.d _) (CoL.cons (Co.d _) (CoL.cons (Co.d _) CoL.nil)))))) rfl (OpJ.build (places := [(0, 1), (1, 1), (2, 1), (3, 1), (4, 2)]) ⟨underlying33, fun w => by kernel_rfl⟩ tyZS33 (Opds.cons (Opd.int .i64 (1)) (Opds.cons (Opd.int .i64 (1)) (Opds.cons (Opd.int .i64 (9)) (Opds.cons (q 27) Opds.nil)))) (by kernel_rfl) (r := (.st [(i6 1), (i6 1), (i6 0), (i6 (9 : Int)), (.d (e_api_Resources r2.1))])) (by rfl) (L rfl))) rfl (c (lb hN 26 _ _ tyS26 (At.here _) (q 4)) rfl (c (OpJ.coe (v := (.st [(i6 (2 : Int)), (i6 1), (i6 0), (i6 (9 : Int)), (.d (e_api_Resources r4.1))])) (y := (.st [(.int .i64 (2 : Int)), (.int .i64 1), (.int .i64 0), (.int .i64 (9 : Int)), (e_api_Resources r4.1)])) (Co.st (CoL.cons (Co.d _) (CoL.cons (Co.d _) (CoL.cons (Co.d _) (CoL.cons (Co.d _) (CoL.cons (Co.d _) CoL.nil)))))) rfl (OpJ.build (places := [(0, 1), (1, 1), (2, 1), (3, 1), (4, 2)]) ⟨underlying33, fun w => by kernel_rfl⟩ tyZS33 (Opds.cons (Opd.int .i64 (2)) (Opds.cons (Opd.int .i64 (1)) (Opds.cons (Opd.int .i64 (9)) (Opds.cons (q 29) Opds.nil)))) (by kernel_rfl) (r := (.st [(i6 (2 : Int)), (i6 1), (i6 0), (i6 (9 : Int)), (.d (e_api_Resources r4.1))])) (by rfl) (L rfl))) rfl (c (OpJ.buildSlice underlying30 tyS33 tyZD33 (by rfl) (by decide) (by decide) (Opds.cons (q 28) (Opds.cons (q 30) Opds.nil)) (by kernel_rfl) (es := ([(.st [(.int .i64 1), (.int .i64 1), (.int .i64 0), (.int .i64 (9 : Int)), (e_api_Resources r2.1)]), (.st [(.int .i64 (2 : Int)), (.int .i64 1), (.int .i64 0), (.int .i64 (9 : Int)), (e_api_Resources r4.1)])] : List D)) (by rfl) (by rfl) (by kernel_rfl) (by simp) (L rfl)) rfl (c (OpJ.assign (L rfl) (q 31)) rfl cn)))))) ?_
 apply AWp.seq
 obtain ⟨r5, hr5, h⟩ := bindS h
 obtain ⟨r6, hr6, h⟩ := bindS h
 refine AWp.region (oc (mv hN (ot 6 (qe_api_Cert_6 ([(api_Cert.mk (1 : Int) (1 : Int) (0 : Int) (9 : Int) r2.1), (api_Cert.mk (2 : Int) (1 : Int) (0 : Int) (9 : Int) r4.1)] : List api_Cert))))
 (oc (mv hN (ot 1 (.func 26 [])))
 (oc (OpJ.callVal (args := [(i6 1), (i6 (16 : Int))]) (caps := []) hB fnOk26 [] (exchangepointlaw22_awake_1_ac (1 : Int) (16 : Int) r5 hr5) (by kernel_rfl) (L rfl) (by kernel_rfl) (by kernel_rfl) (OpdL.cons (Opd.int .i64 (1)) (OpdL.cons (Opd.int .i64 (16)) OpdL.nil)))
 (oc (OpJ.coe (v := (.st [(.d (e_api_Prefix r5)), (i6 (16 : Int)), (i6 (7 : Int))])) (y := (.st [(e_api_Prefix r5), (.int .i64 (16 : Int)), (.int .i64 (7 : Int))])) (Co.st (CoL.cons (Co.d _) (CoL.cons (Co.d _) (CoL.cons (Co.d _) CoL.nil)))) rfl (OpJ.build (places := [(0, 4), (4, 1), (5, 1)]) ⟨underlying46, fun w => by kernel_rfl⟩ tyZS46 (Opds.cons (ot 35 (.d (e_api_Prefix r5))) (Opds.cons (Opd.int .i64 (16)) (Opds.cons (Opd.int .i64 (7)) Opds.nil))) (by kernel_rfl) (r := (.st [(.d (e_api_Prefix r5)), (i6 (16 : Int)), (i6 (7 : Int))])) (by rfl) (L rfl)))
 (oc (OpJ.buildSlice underlying38 tyS46 tyZD46 (by rfl) (by decide) (by decide) (Opds.cons (ot 36 (.d (.st [(e_api_Prefix r5), (.int .i64 (16 : Int)), (.int .i64 (7 : Int))]))) Opds.nil) (by kernel_rfl) (es := ([(.st [(e_api_Prefix r5), (.int .i64 (16 : Int)), (.int .i64 (7 : Int))])] : List D)) (by rfl) (by rfl) (by kernel_rfl) (by simp) (L rfl))
 (oc (OpJ.coe (v := (.st [(i6 (2 : Int)), (i6 (7 : Int)), (i6 0), (i6 (9 : Int)), (qe_api_Object_6 ([(api_Object.mk r5 (16 : Int) (7 : Int))] : List api_Object))])) (y := (.st [(.int .i64 (2 : Int)), (.int .i64 (7 : Int)), (.int .i64 0), (.int .i64 (9 : Int)), (.list 6 (([(api_Object.mk r5 (16 : Int) (7 : Int))] : List api_Object).map e_api_Object))])) (Co.st (CoL.cons (Co.d _) (CoL.cons (Co.d _) (CoL.cons (Co.d _) (CoL.cons (Co.d _) (CoL.cons (Co.d _) CoL.nil)))))) rfl (OpJ.build (places := [(0, 1), (1, 1), (2, 1), (3, 1), (4, 1)]) ⟨underlying75, fun w => by kernel_rfl⟩ tyZS75 (Opds.cons (Opd.int .i64 (2)) (Opds.cons (Opd.int .i64 (7)) (Opds.cons (Opd.int .i64 (9)) (Opds.cons (ot 37 (qe_api_Object_6 ([(api_Object.mk r5 (16 : Int) (7 : Int))] : List api_Object))) Opds.nil)))) (by kernel_rfl) (r := (.st [(i6 (2 : Int)), (i6 (7 : Int)), (i6 0), (i6 (9 : Int)), (qe_api_Object_6 ([(api_Object.mk r5 (16 : Int) (7 : Int))] : List api_Object))])) (by rfl) (L rfl)))
 (oc (OpJ.buildSlice underlying76 tyS75 tyZD75 (by rfl) (by decide) (by decide) (Opds.cons (ot 38 (.d (.st [(.int .i64 (2 : Int)), (.int .i64 (7 : Int)), (.int .i64 0), (.int .i64 (9 : Int)), (.list 6 (([(api_Object.mk r5 (16 : Int) (7 : Int))] : List api_Object).map e_api_Object))]))) Opds.nil) (by kernel_rfl) (es := ([(.st [(.int .i64 (2 : Int)), (.int .i64 (7 : Int)), (.int .i64 0), (.int .i64 (9 : Int)), (.list 6 (([(api_Object.mk r5 (16 : Int) (7 : Int))] : List api_Object).map e_api_Object))])] : List D)) (by rfl) (by rfl) (by kernel_rfl) (by simp) (L rfl))
 (oc (OpJ.buildSlice underlying22 tyS3 tyZD3 (by rfl) (by decide) (by decide) (Opds.cons (Opd.int .i64 (1)) Opds.nil) (by kernel_rfl) (es := ([(.int .i64 1)] : List D)) (by rfl) (by rfl) (by kernel_rfl) (by simp) (L rfl))
 (oc (OpJ.callFn hB fnOk27 (origin_Payloads_ac ([(api_Cert.mk (1 : Int) (1 : Int) (0 : Int) (9 : Int) r2.1), (api_Cert.mk (2 : Int) (1 : Int) (0 : Int) (9 : Int) r4.1)] : List api_Cert) ([(api_Signed.mk (2 : Int) (7 : Int) (0 : Int) (9 : Int) ([(api_Object.mk r5 (16 : Int) (7 : Int))] : List api_Object))] : List api_Signed) ([(1 : Int)] : List Int) (5 : Int) r6 hr6) [(500, 500), (501, 501)] (by kernel_rfl) (L rfl) (by kernel_rfl) (OpdL.cons (ot 33 (qe_api_Cert_6 ([(api_Cert.mk (1 : Int) (1 : Int) (0 : Int) (9 : Int) r2.1), (api_Cert.mk (2 : Int) (1 : Int) (0 : Int) (9 : Int) r4.1)] : List api_Cert))) (OpdL.cons (ot 39 (qe_api_Signed_5 ([(api_Signed.mk (2 : Int) (7 : Int) (0 : Int) (9 : Int) ([(api_Object.mk r5 (16 : Int) (7 : Int))] : List api_Object))] : List api_Signed))) (OpdL.cons (ot 40 (qI_1 ([(1 : Int)] : List Int))) (OpdL.cons (Opd.int .i64 (5)) OpdL.nil)))))
 (oc (mv hN (ot 41 (.tup [(qe_api_Object_6 r6.1), (i6 r6.2)])))
 (oc (OpJ.extract (v := (qe_api_Object_6 r6.1)) (by rfl) rfl (L rfl) (ot 32 (.tup [(qe_api_Object_6 r6.1), (i6 r6.2)])))
 (oc (OpJ.extract (v := (i6 r6.2)) (by rfl) rfl (L rfl) (ot 32 (.tup [(qe_api_Object_6 r6.1), (i6 r6.2)])))
 (oc (OpJ.assign (L rfl) (ot 42 (qe_api_Object_6 r6.1)))
 (oc (OpJ.assign (L rfl) (ot 43 (i6 r6.2)))
 (OpJs.nil))))))))))))))) (by rfl) (by rfl) ?_
 apply seqQ_n
 refine AWp.ghost (mp [] [(1, (.func 26 [])), (7, (qe_api_Object_6 r6.1)), (8, (i6 r6.2))] [(500, some (.know (globF 0 [82, 122, 123]))), (501, some (.know (globF 1 [77, 124, 125])))] hB) ?_
 obtain ⟨r7, hr7, h⟩ := bindS h
 obtain ⟨r8, hr8, h⟩ := bindS h
 refine sr (c (mv hN (q 7)) rfl (c (mv hN (q 1)) rfl (cg (OpJ.callVal (args := [(i6 1), (i6 (16 : Int))]) (caps := []) hB fnOk26 [] (exchangepointlaw22_awake_1_ac (1 : Int) (16 : Int) r7 hr7) (by kernel_rfl) (L rfl) (by kernel_rfl) (by kernel_rfl) (OpdL.cons (Opd.int .i64 (1)) (OpdL.cons (Opd.int .i64 (16)) OpdL.nil))) rfl (cg (cf hB fnOk15 (origin_State_ac r6.1 r7 (7 : Int) r8 hr8) (L rfl) (OpdL.cons (q 45) (OpdL.cons (q 47) (OpdL.cons (Opd.int .i64 (7)) OpdL.nil)))) rfl (c (mv hN (q 48)) rfl (c (OpJ.extract (by rfl) rfl (L rfl) (q 44)) rfl (c (OpJ.extract (by rfl) rfl (L rfl) (q 44)) rfl (c (OpJ.assign (L rfl) (q 49)) rfl (c (OpJ.assign (L rfl) (q 50)) rfl cn))))))))) ?_
 obtain ⟨r9, hr9, h⟩ := bindS h
 obtain ⟨r10, hr10, h⟩ := bindS h
 refine sr (c (mv hN (q 7)) rfl (c (mv hN (q 1)) rfl (cg (OpJ.callVal (args := [(i6 1), (i6 (16 : Int))]) (caps := []) hB fnOk26 [] (exchangepointlaw22_awake_1_ac (1 : Int) (16 : Int) r9 hr9) (by kernel_rfl) (L rfl) (by kernel_rfl) (by kernel_rfl) (OpdL.cons (Opd.int .i64 (1)) (OpdL.cons (Opd.int .i64 (16)) OpdL.nil))) rfl (cg (cf hB fnOk15 (origin_State_ac r6.1 r9 (8 : Int) r10 hr10) (L rfl) (OpdL.cons (q 52) (OpdL.cons (q 54) (OpdL.cons (Opd.int .i64 (8)) OpdL.nil)))) rfl (c (mv hN (q 55)) rfl (c (OpJ.extract (by rfl) rfl (L rfl) (q 51)) rfl (c (OpJ.extract (by rfl) rfl (L rfl) (q 51)) rfl (c (OpJ.assign (L rfl) (q 56)) rfl (c (OpJ.assign (L rfl) (q 57)) rfl cn))))))))) ?_
 refine sr (c (mv hN (q 8)) rfl (c (OpJ.eqlI (L rfl) (q 58) (Opd.int .i64 (0))) rfl (c (mv hN (q 59)) rfl (c (oq hN 60 (mv hN (q 7)) (OptL.keep (by rfl) OptL.nil) (GuardV.plain _)) rfl (c (oq hN 60 (OpJ.val (v' := (i6 (r6.1.length : Int))) (by simp) (OpJ.lenD underlying38 (L rfl) (q 61))) (OptL.opt OptL.nil) (GuardV.plain _)) rfl (c (oq hN 60 (OpJ.eqlI (L rfl) (q 62) (Opd.int .i64 (1))) (OptL.opt OptL.nil) (GuardV.plain _)) rfl (c (OpJ.pickAnd rfl (L rfl) (q 60) (q 63)) rfl (c (mv hN (q 64)) rfl (c (oq hN 65 (mv hN (q 9)) (OptL.keep (by rfl) OptL.nil) (GuardV.plain _)) rfl (c (oq hN 65 (OpJ.eqlI (L rfl) (q 66) (Opd.int .i64 (1))) (OptL.opt OptL.nil) (GuardV.plain _)) rfl (c (OpJ.pickAnd rfl (L rfl) (q 65) (q 67)) rfl (c (mv hN (q 68)) rfl (c (oq hN 69 (mv hN (q 11)) (OptL.keep (by rfl) OptL.nil) (GuardV.plain _)) rfl (c (oq hN 69 (OpJ.eqlI (L rfl) (q 70) (Opd.int .i64 (2))) (OptL.opt OptL.nil) (GuardV.plain _)) rfl (c (OpJ.pickAnd rfl (L rfl) (q 69) (q 71)) rfl (c (OpJ.assign (L rfl) (q 72)) rfl cn)))))))))))))))) ?_
 apply AWp.ret
 obtain rfl := Option.some.inj h
 exact ⟨.inl rfl, _, _, (kp [(0, _)] [(500, some _), (501, some _)] hB rfl rfl (by rfl)), [(bo ((((r6.2 == (0 : Int)) && ((r6.1.length : Int) == (1 : Int))) && (r8.1 == (1 : Int))) && (r10.1 == (2 : Int))))], (Res.tmp (by rfl) (by rfl) Res.nil), rfl, by rfl, by rfl, by rfl⟩
noncomputable def exchangepointmake_Deck_Object (a0 : exchangepointmake_Deck) : Option (api_Object × exchangepointmake_Deck) :=
 (exchangepointmake_Deck_Prefix a0).bind fun r1 =>
 jn (fun m3 : Int =>
 (exchangepointmake_Deck_Next r1.2 (4 : Int)).bind fun r5 =>
 (exchangepointmake_Deck_Next r5.2 (4 : Int)).bind fun r6 =>
 (exchangepointmake_Deck_Next r6.2 (5 : Int)).bind fun r7 =>
 some ((api_Object.mk r1.1 (minI m3 (w64 (r1.1.fLen + (w64 (r5.1 * r6.1))))) (w64 ((1 : Int) + r7.1))), r7.2)) (fun j4 =>
 (if r1.1.fAddr.fV6 = true then
 j4 (128 : Int)
 else
 j4 (32 : Int)))
theorem exchangepointmake_Deck_Object_ac (a0 : exchangepointmake_Deck) (r : api_Object × exchangepointmake_Deck) (h : exchangepointmake_Deck_Object a0 = some r) : AC Tryd.prog 12 [(pt 0)] [(0, (.box 60 (.d (e_exchangepointmake_Deck a0))))] (.d (e_api_Object r.1)) [(0, bd 60 (e_exchangepointmake_Deck r.2))] := by
 refine AC.of_code2 Tryd.func12 rfl rfl (Nat.le_of_ble_eq_true (by rfl)) fun B hB hN => ?_
 have L {d : Nat} (h : Nat.blt d Tryd.f12.ntmps = true) : d < B.N := ltN hN h
 delta exchangepointmake_Deck_Object at h
 refine sr (cg (OpJ.alloc hB tyZ46 (nm := 1002) (by decide) (L rfl)) rfl cn) ?_
 apply AWp.seq
 obtain ⟨r1, hr1, h⟩ := bindS h
 refine AWp.region (oc (mv hN (ot 0 (pt 0)))
 (oc (OpJ.callFn hB fnOk13 (exchangepointmake_Deck_Prefix_ac a0 r1 hr1) [(0, 0)] (by kernel_rfl) (L rfl) (by kernel_rfl) (OpdL.cons (ot 5 (pt 0)) OpdL.nil))
 (oc (OpJ.alloc hB tyZ44 (nm := 1003) (by decide) (L rfl))
 (oc (OpJ.storeB (bt := 44) (c := (.d (.st [(.st [(.bool false), (.int .u64 0), (.int .u64 0)]), (.int .i64 0)]))) (v := (.d (e_api_Prefix r1.1))) (c' := (.d (e_api_Prefix r1.1))) tyS44 (SetAt.here _ _) (by rfl) (by rfl) (by simp) rfl (ot 3 (pt 1003)) (ot 6 (.d (e_api_Prefix r1.1))))
 (OpJs.nil))))) (by rfl) (by rfl) ?_
 apply seqQ_n
 refine AWp.ghost (mp [] [(0, (pt 0)), (2, (pt 1002)), (3, (pt 1003))] [(0, bd 60 (e_exchangepointmake_Deck r1.2)), (1002, bd 46 (.st [(.st [(.st [(.bool false), (.int .u64 0), (.int .u64 0)]), (.int .i64 0)]), (.int .i64 0), (.int .i64 0)])), (1003, bd 44 (e_api_Prefix r1.1))] hB) ?_
 refine sr (c (OpJ.assign (L rfl) (Opd.int .i64 (32))) rfl cn) ?_
 apply AWp.seq
 refine sr (c (fo 1003 0 [0] hN underlying44 0 tyS42 (q 3)) rfl (c (fo 1003 0 [0, 0] hN underlying42 0 tyS4 (q 7)) rfl (c (lb hN 44 _ _ tyS4 (At.dst1 (by rfl) (by rfl) (ad _) (by first | rfl | omega)) (q 8)) rfl cn))) ?_
 refine gh [(0, _), (2, _), (3, _), (4, _), (9, _)] [(0, some _), (1002, some _), (1003, some _)] hB rfl rfl (by rfl) ?_
 refine AWp.cut h (fun m3 : Int => ([(0, (pt 0)), (2, (pt 1002)), (3, (pt 1003)), (4, (i6 m3))] : EL)) (fun m3 : Int => ([(0, bd 60 (e_exchangepointmake_Deck r1.2)), (1002, bd 46 (.st [(.st [(.st [(.bool false), (.int .u64 0), (.int .u64 0)]), (.int .i64 0)]), (.int .i64 0), (.int .i64 0)])), (1003, bd 44 (e_api_Prefix r1.1))] : OL)) (fun m3 h E' O' hmat => ?_) (fun j4 hjj4 h => ?_)
 ·apply seqQ_n
  refine AWp.ghost hmat ?_
  apply AWp.seq
  obtain ⟨r5, hr5, h⟩ := bindS h
  obtain ⟨r6, hr6, h⟩ := bindS h
  obtain ⟨r7, hr7, h⟩ := bindS h
  refine AWp.draws (by kernel_rfl) (oc (lb hN 44 (.d (e_api_Prefix r1.1)) (.d (e_api_Prefix r1.1)) tyS44 (At.here _) (ot 3 (pt 1003)))
   (oc (mv hN (ot 4 (i6 m3)))
   (oc (ov (.ptr 1003 3 [1]) (fp hN underlying44 3 tyS3 (.box 44 (.d (e_api_Prefix r1.1))) (ot 3 (pt 1003))))
   (oc (lb hN 44 (.d (e_api_Prefix r1.1)) (i6 r1.1.fLen) tyS3 (ad (.int .i64 r1.1.fLen)) (ot 12 (.ptr 1003 3 [1])))
   (oc (mv hN (ot 0 (pt 0)))
   (oc (OpJ.callFn hB fnOk11 (exchangepointmake_Deck_Next_ac r1.2 (4 : Int) r5 hr5) [(0, 0)] (by kernel_rfl) (L rfl) (by kernel_rfl) (OpdL.cons (ot 14 (pt 0)) (OpdL.cons (Opd.int .i64 (4)) OpdL.nil)))
   (oc (mv hN (ot 0 (pt 0)))
   (oc (OpJ.callFn hB fnOk11 (exchangepointmake_Deck_Next_ac r5.2 (4 : Int) r6 hr6) [(0, 0)] (by kernel_rfl) (L rfl) (by kernel_rfl) (OpdL.cons (ot 16 (pt 0)) (OpdL.cons (Opd.int .i64 (4)) OpdL.nil)))
   (oc (mul6 (L rfl) (ot 15 (i6 r5.1)) (ot 17 (i6 r6.1)))
   (oc (add6 (L rfl) (ot 13 (i6 r1.1.fLen)) (ot 18 (i6 (w64 (r5.1 * r6.1)))))
   (oc (OpJ.min (L rfl) (ot 11 (i6 m3)) (ot 19 (i6 (w64 (r1.1.fLen + (w64 (r5.1 * r6.1)))))))
   (oc (mv hN (ot 0 (pt 0)))
   (oc (OpJ.callFn hB fnOk11 (exchangepointmake_Deck_Next_ac r6.2 (5 : Int) r7 hr7) [(0, 0)] (by kernel_rfl) (L rfl) (by kernel_rfl) (OpdL.cons (ot 21 (pt 0)) (OpdL.cons (Opd.int .i64 (5)) OpdL.nil)))
   (oc (add6 (L rfl) (Opd.int .i64 (1)) (ot 22 (i6 r7.1)))
   (oc (OpJ.coe (v := (.st [(.d (e_api_Prefix r1.1)), (i6 (minI m3 (w64 (r1.1.fLen + (w64 (r5.1 * r6.1)))))), (i6 (w64 ((1 : Int) + r7.1)))])) (y := (.st [(e_api_Prefix r1.1), (.int .i64 (minI m3 (w64 (r1.1.fLen + (w64 (r5.1 * r6.1)))))), (.int .i64 (w64 ((1 : Int) + r7.1)))])) (Co.st (CoL.cons (Co.d _) (CoL.cons (Co.d _) (CoL.cons (Co.d _) CoL.nil)))) rfl (OpJ.build (places := [(0, 4), (4, 1), (5, 1)]) ⟨underlying46, fun w => by kernel_rfl⟩ tyZS46 (Opds.cons (ot 10 (.d (e_api_Prefix r1.1))) (Opds.cons (ot 20 (i6 (minI m3 (w64 (r1.1.fLen + (w64 (r5.1 * r6.1))))))) (Opds.cons (ot 23 (i6 (w64 ((1 : Int) + r7.1)))) Opds.nil))) (by kernel_rfl) (r := (.st [(.d (e_api_Prefix r1.1)), (i6 (minI m3 (w64 (r1.1.fLen + (w64 (r5.1 * r6.1)))))), (i6 (w64 ((1 : Int) + r7.1)))])) (by rfl) (L rfl)))
   (oc (OpJ.storeB (bt := 46) (c := (.d (.st [(.st [(.st [(.bool false), (.int .u64 0), (.int .u64 0)]), (.int .i64 0)]), (.int .i64 0), (.int .i64 0)]))) (v := (.d (.st [(e_api_Prefix r1.1), (.int .i64 (minI m3 (w64 (r1.1.fLen + (w64 (r5.1 * r6.1)))))), (.int .i64 (w64 ((1 : Int) + r7.1)))]))) (c' := (.d (.st [(e_api_Prefix r1.1), (.int .i64 (minI m3 (w64 (r1.1.fLen + (w64 (r5.1 * r6.1)))))), (.int .i64 (w64 ((1 : Int) + r7.1)))]))) tyS46 (SetAt.here _ _) (by rfl) (by rfl) (by simp) rfl (ot 2 (pt 1002)) (ot 24 (.d (.st [(e_api_Prefix r1.1), (.int .i64 (minI m3 (w64 (r1.1.fLen + (w64 (r5.1 * r6.1)))))), (.int .i64 (w64 ((1 : Int) + r7.1)))]))))
   (OpJs.nil))))))))))))))))) (by kernel_rfl) (by rfl) (by rfl) ?_
  apply seqQ_n
  refine AWp.ghost (mp [] [(2, (pt 1002))] [(0, bd 60 (e_exchangepointmake_Deck r7.2)), (1002, some (.box 46 (.d (.st [(e_api_Prefix r1.1), (.int .i64 (minI m3 (w64 (r1.1.fLen + (w64 (r5.1 * r6.1)))))), (.int .i64 (w64 ((1 : Int) + r7.1)))]))))] hB) ?_
  apply AWp.ret
  obtain rfl := Option.some.inj h
  exact ⟨.inl rfl, _, _, (kp [(2, _)] [(0, some _), (1002, some _)] hB rfl rfl (by rfl)), [(.d (.st [(e_api_Prefix r1.1), (.int .i64 (minI m3 (w64 (r1.1.fLen + (w64 (r5.1 * r6.1)))))), (.int .i64 (w64 ((1 : Int) + r7.1)))]))], (Res.cell (c := (.d (.st [(e_api_Prefix r1.1), (.int .i64 (minI m3 (w64 (r1.1.fLen + (w64 (r5.1 * r6.1)))))), (.int .i64 (w64 ((1 : Int) + r7.1)))]))) (by rfl) (by rfl) tyS46 (by rfl) (by rfl) (by rfl) Res.nil), rfl, by rfl, by rfl, by rfl⟩
 ·refine AWp.cond rfl (fun hg8 => ?_) (fun hg8 => ?_)
  ·replace h := ite_t hg8 h
   refine rg (c (OpJ.assign (L rfl) (Opd.int .i64 (128))) rfl cn) ?_
   exact hjj4 _ h _ _ (mp [] _ _ hB)
  ·replace h := ite_f hg8 h
   apply AWp.skip
   exact hjj4 _ h _ _ (mp [] _ _ hB)
noncomputable def exchangepointref02_Halves (a0 : api_Prefix) : Option (api_Prefix × api_Prefix × Int) :=
 (exchangepointref02_Valid a0).bind fun r1 =>
 (if (!r1) = true then
 some ((api_Prefix.mk (api_Addr.mk false (0 : Int) (0 : Int)) (0 : Int)), (api_Prefix.mk (api_Addr.mk false (0 : Int) (0 : Int)) (0 : Int)), (1 : Int))
 else
 (exchangepointref02_width a0.fAddr).bind fun r3 =>
 (if (a0.fLen == r3) = true then
 some ((api_Prefix.mk (api_Addr.mk false (0 : Int) (0 : Int)) (0 : Int)), (api_Prefix.mk (api_Addr.mk false (0 : Int) (0 : Int)) (0 : Int)), (9 : Int))
 else
 (exchangepointref01_Bytes_2 a0.fAddr).bind fun r5 =>
 (idx r5 (w64 (Int.tdiv a0.fLen (8 : Int)))).bind fun x6 =>
 (idx r5 (w64 (Int.tdiv a0.fLen (8 : Int)))).bind fun x7 =>
 (idx r5 (w64 (Int.tdiv a0.fLen (8 : Int)))).bind fun x8 =>
 (idx r5 (w64 (Int.tdiv a0.fLen (8 : Int)))).bind fun x9 =>
 (exchangepointref01_FromBytes (((r5.set (w64 (Int.tdiv a0.fLen (8 : Int))).toNat (bitI .or .u8 x7 (shrI .u8 (128 : Int) (IntKind.u64.wrap (Int.tmod a0.fLen (8 : Int)))))).drop 0).take r5.length)).bind fun r10 =>
 some ((api_Prefix.mk a0.fAddr (w64 (a0.fLen + (1 : Int)))), (api_Prefix.mk r10.1 (w64 (a0.fLen + (1 : Int)))), (0 : Int))))
theorem exchangepointref02_Halves_ac (a0 : api_Prefix) (r : api_Prefix × api_Prefix × Int) (h : exchangepointref02_Halves a0 = some r) : AC Tryd.prog 18 [(.d (e_api_Prefix a0))] [] (.tup [(.d (e_api_Prefix r.1)), (.d (e_api_Prefix r.2.1)), (.d (.int .i64 r.2.2))]) [] := by
 refine AC.of_code2 Tryd.func18 rfl rfl (Nat.le_of_ble_eq_true (by rfl)) fun B hB hN => ?_
 have L {d : Nat} (h : Nat.blt d Tryd.f18.ntmps = true) : d < B.N := ltN hN h
 delta exchangepointref02_Halves at h
 refine sr (cg (OpJ.box hB (nm := 1001) (by decide) (by simp) rfl (L rfl) (q 0)) rfl (cg (OpJ.alloc hB tyZ44 (nm := 1002) (by decide) (L rfl)) rfl (cg (OpJ.alloc hB tyZ44 (nm := 1003) (by decide) (L rfl)) rfl (c (OpJ.assign (L rfl) (Opd.int .i64 (0))) rfl cn)))) ?_
 apply AWp.seq
 apply AWp.block
 obtain ⟨r1, hr1, h⟩ := bindS h
 refine sr (c (lb hN 44 _ _ tyS44 (At.here _) (q 1)) rfl (cg (cf hB fnOk35 (exchangepointref02_Valid_ac a0 r1 hr1) (L rfl) (OpdL.cons (q 9) OpdL.nil)) rfl (c (OpJ.not (L rfl) (q 10)) rfl (c (OpJ.assign (L rfl) (q 11)) rfl cn)))) ?_
 refine AWp.cond rfl (fun hg2 => ?_) (fun hg2 => ?_)
 ·replace h := ite_t hg2 h
  refine sr (c (OpJ.coe (v := (.st [(.d (.st [(.bool false), (.int .u64 0), (.int .u64 0)])), (i6 0)])) (y := (.st [(.st [(.bool false), (.int .u64 0), (.int .u64 0)]), (.int .i64 0)])) (Co.st (CoL.cons (Co.d _) (CoL.cons (Co.d _) CoL.nil))) rfl (OpJ.build (places := [(0, 3), (3, 1)]) ⟨underlying44, fun w => by kernel_rfl⟩ tyZS44 Opds.nil (by kernel_rfl) (r := (.st [(.d (.st [(.bool false), (.int .u64 0), (.int .u64 0)])), (i6 0)])) (by rfl) (L rfl))) rfl (c (OpJ.coe (v := (.st [(.d (.st [(.bool false), (.int .u64 0), (.int .u64 0)])), (i6 0)])) (y := (.st [(.st [(.bool false), (.int .u64 0), (.int .u64 0)]), (.int .i64 0)])) (Co.st (CoL.cons (Co.d _) (CoL.cons (Co.d _) CoL.nil))) rfl (OpJ.build (places := [(0, 3), (3, 1)]) ⟨underlying44, fun w => by kernel_rfl⟩ tyZS44 Opds.nil (by kernel_rfl) (r := (.st [(.d (.st [(.bool false), (.int .u64 0), (.int .u64 0)])), (i6 0)])) (by rfl) (L rfl))) rfl (cg (sB tyS44 (q 2) (q 12)) rfl (cg (sB tyS44 (q 3) (q 13)) rfl (c (OpJ.assign (L rfl) (Opd.int .i64 (1))) rfl cn))))) ?_
  apply AWp.ret
  apply blkQ_r
  apply seqQ_r
  obtain rfl := Option.some.inj h
  exact ⟨.inl rfl, _, _, (kp [(2, _), (3, _), (4, _)] [(1002, some _), (1003, some _)] hB rfl rfl (by rfl)), [(.d (.st [(.st [(.bool false), (.int .u64 0), (.int .u64 0)]), (.int .i64 0)])), (.d (.st [(.st [(.bool false), (.int .u64 0), (.int .u64 0)]), (.int .i64 0)])), (i6 1)], (Res.cell (c := (.d (.st [(.st [(.bool false), (.int .u64 0), (.int .u64 0)]), (.int .i64 0)]))) (by rfl) (by rfl) tyS44 (by rfl) (by rfl) (by rfl) (Res.cell (c := (.d (.st [(.st [(.bool false), (.int .u64 0), (.int .u64 0)]), (.int .i64 0)]))) (by rfl) (by rfl) tyS44 (by rfl) (by rfl) (by rfl) (Res.tmp (by rfl) (by rfl) Res.nil))), rfl, by rfl, by rfl, by rfl⟩
 ·replace h := ite_f hg2 h
  obtain ⟨r3, hr3, h⟩ := bindS h
  refine sd (c (fo 1001 3 [1] hN underlying44 3 tyS3 (q 1)) rfl (c (la hN 44 tyS3 (q 15)) rfl (c (fo 1001 0 [0] hN underlying44 0 tyS42 (q 1)) rfl (c (la hN 44 tyS42 (q 17)) rfl (cg (cf hB fnOk30 (exchangepointref02_width_ac a0.fAddr r3 hr3) (L rfl) (OpdL.cons (q 18) OpdL.nil)) rfl (c (OpJ.eqlI (L rfl) (q 16) (q 19)) rfl (c (OpJ.assign (L rfl) (q 20)) rfl cn))))))) (by kernel_rfl) (by kernel_rfl) ?_
  refine AWp.cond rfl (fun hg4 => ?_) (fun hg4 => ?_)
  ·replace h := ite_t hg4 h
   refine sr (c (OpJ.coe (v := (.st [(.d (.st [(.bool false), (.int .u64 0), (.int .u64 0)])), (i6 0)])) (y := (.st [(.st [(.bool false), (.int .u64 0), (.int .u64 0)]), (.int .i64 0)])) (Co.st (CoL.cons (Co.d _) (CoL.cons (Co.d _) CoL.nil))) rfl (OpJ.build (places := [(0, 3), (3, 1)]) ⟨underlying44, fun w => by kernel_rfl⟩ tyZS44 Opds.nil (by kernel_rfl) (r := (.st [(.d (.st [(.bool false), (.int .u64 0), (.int .u64 0)])), (i6 0)])) (by rfl) (L rfl))) rfl (c (OpJ.coe (v := (.st [(.d (.st [(.bool false), (.int .u64 0), (.int .u64 0)])), (i6 0)])) (y := (.st [(.st [(.bool false), (.int .u64 0), (.int .u64 0)]), (.int .i64 0)])) (Co.st (CoL.cons (Co.d _) (CoL.cons (Co.d _) CoL.nil))) rfl (OpJ.build (places := [(0, 3), (3, 1)]) ⟨underlying44, fun w => by kernel_rfl⟩ tyZS44 Opds.nil (by kernel_rfl) (r := (.st [(.d (.st [(.bool false), (.int .u64 0), (.int .u64 0)])), (i6 0)])) (by rfl) (L rfl))) rfl (cg (sB tyS44 (q 2) (q 21)) rfl (cg (sB tyS44 (q 3) (q 22)) rfl (c (OpJ.assign (L rfl) (Opd.int .i64 (9))) rfl cn))))) ?_
   apply AWp.ret
   apply blkQ_r
   apply seqQ_r
   obtain rfl := Option.some.inj h
   exact ⟨.inl rfl, _, _, (kp [(2, _), (3, _), (4, _)] [(1002, some _), (1003, some _)] hB rfl rfl (by rfl)), [(.d (.st [(.st [(.bool false), (.int .u64 0), (.int .u64 0)]), (.int .i64 0)])), (.d (.st [(.st [(.bool false), (.int .u64 0), (.int .u64 0)]), (.int .i64 0)])), (i6 (9 : Int))], (Res.cell (c := (.d (.st [(.st [(.bool false), (.int .u64 0), (.int .u64 0)]), (.int .i64 0)]))) (by rfl) (by rfl) tyS44 (by rfl) (by rfl) (by rfl) (Res.cell (c := (.d (.st [(.st [(.bool false), (.int .u64 0), (.int .u64 0)]), (.int .i64 0)]))) (by rfl) (by rfl) tyS44 (by rfl) (by rfl) (by rfl) (Res.tmp (by rfl) (by rfl) Res.nil))), rfl, by rfl, by rfl, by rfl⟩
  ·replace h := ite_f hg4 h
   apply AWp.skip
   apply blkQ_n
   apply seqQ_n
   apply AWp.seq
   obtain ⟨r5, hr5, h⟩ := bindS h
   refine AWp.region (oc (ov (.ptr 1001 0 [0]) (fp hN underlying44 0 tyS42 (.box 44 (.d (e_api_Prefix a0))) (ot 1 (pt 1001))))
    (oc (lb hN 44 (.d (e_api_Prefix a0)) (.d (e_api_Addr a0.fAddr)) tyS42 (ad (e_api_Addr a0.fAddr)) (ot 23 (.ptr 1001 0 [0])))
    (oc (OpJ.callFn hB fnOk31 (exchangepointref01_Bytes_2_ac a0.fAddr r5 hr5) [(900000, 100200)] (by kernel_rfl) (L rfl) (by kernel_rfl) (OpdL.cons (ot 24 (.d (e_api_Addr a0.fAddr))) OpdL.nil))
    (oc (OpJ.assign (L rfl) (ot 25 (.sref 100200 1 0 r5.length)))
    (OpJs.nil))))) (by rfl) (by rfl) ?_
   apply seqQ_n
   refine AWp.ghost (mp [] [(1, (pt 1001)), (2, (pt 1002)), (3, (pt 1003)), (5, (.sref 100200 1 0 r5.length))] [(1001, bd 44 (e_api_Prefix a0)), (1002, bd 44 (.st [(.st [(.bool false), (.int .u64 0), (.int .u64 0)]), (.int .i64 0)])), (1003, bd 44 (.st [(.st [(.bool false), (.int .u64 0), (.int .u64 0)]), (.int .i64 0)])), (100200, some (.row 5 1 (r5.map (eI .u8))))] hB) ?_
   obtain ⟨x6, hx6, h⟩ := bindS h
   obtain ⟨x7, hx7, h⟩ := bindS h
   obtain ⟨x8, hx8, h⟩ := bindS h
   obtain ⟨x9, hx9, h⟩ := bindS h
   refine sd (c (mv hN (q 5)) rfl (c (fo 1001 3 [1] hN underlying44 3 tyS3 (q 1)) rfl (c (la hN 44 tyS3 (q 27)) rfl (c (quo6 (L rfl) (q 28) (Opd.int .i64 (8)) (by decide)) rfl (c (OpJ.val (v' := (.ptr 100200 ((w64 (Int.tdiv a0.fLen (8 : Int))).toNat * 1) [(w64 (Int.tdiv a0.fLen (8 : Int))).toNat])) (by simp) (OpJ.indexS underlying80 tyS5 (idx_some hx6).1 (by have := idx_lt hx6; first | (simpa using this) | ((try simp only [List.length_map] at this); (try simp only [List.length_map]); omega)) (L rfl) (q 26) (q 29))) rfl (c (OpJ.loadR (e := 5) (sz := 1) tyS5 (get_map (eI .u8) (idx_some hx7).2) (o := 0) (At.here _) (by rfl) (by rfl) (by rfl) (L rfl) (q 30)) rfl (c (fo 1001 3 [1] hN underlying44 3 tyS3 (q 1)) rfl (c (la hN 44 tyS3 (q 32)) rfl (c (OpJ.rem (L rfl) (q 33) (Opd.int .i64 (8)) (by decide)) rfl (c (OpJ.conv underlying3 underlying70 (L rfl) (q 34)) rfl (c (OpJ.shr (L rfl) (Opd.int .u8 (128)) (q 35) (wrap_nonneg rfl _)) rfl (c (OpJ.bits (.inr (.inl rfl)) (L rfl) (q 31) (q 36)) rfl (c (OpJ.val (v' := (.ptr 100200 ((w64 (Int.tdiv a0.fLen (8 : Int))).toNat * 1) [(w64 (Int.tdiv a0.fLen (8 : Int))).toNat])) (by simp) (OpJ.indexS underlying80 tyS5 (idx_some hx8).1 (by have := idx_lt hx8; first | (simpa using this) | ((try simp only [List.length_map] at this); (try simp only [List.length_map]); omega)) (L rfl) (q 26) (q 29))) rfl (cg (OpJ.storeR (e := 5) (sz := 1) (es' := (r5.set (w64 (Int.tdiv a0.fLen (8 : Int))).toNat (bitI .or .u8 x7 (shrI .u8 (128 : Int) (IntKind.u64.wrap (Int.tmod a0.fLen (8 : Int)))))).map (eI .u8)) tyS5 (get_map (eI .u8) (idx_some hx9).2) (o := 0) (SetAt.here _ _) (by rfl) (map_set _ _ _ _) (by rfl) (by rfl) (q 38) (q 37)) rfl cn)))))))))))))) (by kernel_rfl) (by kernel_rfl) ?_
   apply AWp.seq
   refine AWp.ghost (Mat.freezeP (n := 100200) (e := 5) (sz := 1) (es := (r5.set (w64 (Int.tdiv a0.fLen (8 : Int))).toNat (bitI .or .u8 x7 (shrI .u8 (128 : Int) (IntKind.u64.wrap (Int.tmod a0.fLen (8 : Int)))))).map (eI .u8)) (Ts := [(5, (.d (.list 1 ((((r5.set (w64 (Int.tdiv a0.fLen (8 : Int))).toNat (bitI .or .u8 x7 (shrI .u8 (128 : Int) (IntKind.u64.wrap (Int.tmod a0.fLen (8 : Int)))))).drop 0).take r5.length).map (eI .u8)))))]) (Bs := []) (by rfl) (TwT.cons (x := (.sref 100200 1 0 r5.length)) (by rfl) (FrzL.cut (fs := (((r5.set (w64 (Int.tdiv a0.fLen (8 : Int))).toNat (bitI .or .u8 x7 (shrI .u8 (128 : Int) (IntKind.u64.wrap (Int.tmod a0.fLen (8 : Int)))))).drop 0).take r5.length).map (eI .u8)) (by simp only [List.length_map, List.length_append, List.length_take, List.length_drop, List.length_replicate, List.length_set]; omega) (by first | rw [List.map_drop, List.map_take] | simp [List.map_take, List.map_drop])) TwT.nil) TwB.nil) ?_
   obtain ⟨r10, hr10, h⟩ := bindS h
   refine rg (c (mv hN (q 5)) rfl (cg (OpJ.callFn hB fnOk32 (exchangepointref01_FromBytes_ac (((r5.set (w64 (Int.tdiv a0.fLen (8 : Int))).toNat (bitI .or .u8 x7 (shrI .u8 (128 : Int) (IntKind.u64.wrap (Int.tmod a0.fLen (8 : Int)))))).drop 0).take r5.length) r10 hr10) [] (by kernel_rfl) (L rfl) (by kernel_rfl) (OpdL.cons (q 40) OpdL.nil)) rfl (c (mv hN (q 41)) rfl (c (OpJ.extract (by rfl) rfl (L rfl) (q 39)) rfl (c (OpJ.extract (by rfl) rfl (L rfl) (q 39)) rfl (cg (OpJ.alloc hB tyZ42 (nm := 1006) (by decide) (L rfl)) rfl (cg (sB tyS42 (q 6) (q 42)) rfl (c (OpJ.assign (L rfl) (q 43)) rfl cn)))))))) ?_
   apply seqQ_n
   refine sd (c (fo 1001 0 [0] hN underlying44 0 tyS42 (q 1)) rfl (c (la hN 44 tyS42 (q 44)) rfl (c (fo 1001 3 [1] hN underlying44 3 tyS3 (q 1)) rfl (c (la hN 44 tyS3 (q 46)) rfl (c (add6 (L rfl) (q 47) (Opd.int .i64 (1))) rfl (c (OpJ.coe (v := (.st [(.d (e_api_Addr a0.fAddr)), (i6 (w64 (a0.fLen + (1 : Int))))])) (y := (.st [(e_api_Addr a0.fAddr), (.int .i64 (w64 (a0.fLen + (1 : Int))))])) (Co.st (CoL.cons (Co.d _) (CoL.cons (Co.d _) CoL.nil))) rfl (OpJ.build (places := [(0, 3), (3, 1)]) ⟨underlying44, fun w => by kernel_rfl⟩ tyZS44 (Opds.cons (q 45) (Opds.cons (q 48) Opds.nil)) (by kernel_rfl) (r := (.st [(.d (e_api_Addr a0.fAddr)), (i6 (w64 (a0.fLen + (1 : Int))))])) (by rfl) (L rfl))) rfl (c (lb hN 42 _ _ tyS42 (At.here _) (q 6)) rfl (c (fo 1001 3 [1] hN underlying44 3 tyS3 (q 1)) rfl (c (la hN 44 tyS3 (q 51)) rfl (c (add6 (L rfl) (q 52) (Opd.int .i64 (1))) rfl (c (OpJ.coe (v := (.st [(.d (e_api_Addr r10.1)), (i6 (w64 (a0.fLen + (1 : Int))))])) (y := (.st [(e_api_Addr r10.1), (.int .i64 (w64 (a0.fLen + (1 : Int))))])) (Co.st (CoL.cons (Co.d _) (CoL.cons (Co.d _) CoL.nil))) rfl (OpJ.build (places := [(0, 3), (3, 1)]) ⟨underlying44, fun w => by kernel_rfl⟩ tyZS44 (Opds.cons (q 50) (Opds.cons (q 53) Opds.nil)) (by kernel_rfl) (r := (.st [(.d (e_api_Addr r10.1)), (i6 (w64 (a0.fLen + (1 : Int))))])) (by rfl) (L rfl))) rfl (cg (sB tyS44 (q 2) (q 49)) rfl (cg (sB tyS44 (q 3) (q 54)) rfl (c (OpJ.assign (L rfl) (Opd.int .i64 (0))) rfl cn)))))))))))))) (by kernel_rfl) (by kernel_rfl) ?_
   apply AWp.ret
   obtain rfl := Option.some.inj h
   exact ⟨.inl rfl, _, _, (kp [(2, _), (3, _), (4, _)] [(1002, some _), (1003, some _)] hB rfl rfl (by rfl)), [(.d (.st [(e_api_Addr a0.fAddr), (.int .i64 (w64 (a0.fLen + (1 : Int))))])), (.d (.st [(e_api_Addr r10.1), (.int .i64 (w64 (a0.fLen + (1 : Int))))])), (i6 0)], (Res.cell (c := (.d (.st [(e_api_Addr a0.fAddr), (.int .i64 (w64 (a0.fLen + (1 : Int))))]))) (by rfl) (by rfl) tyS44 (by rfl) (by rfl) (by rfl) (Res.cell (c := (.d (.st [(e_api_Addr r10.1), (.int .i64 (w64 (a0.fLen + (1 : Int))))]))) (by rfl) (by rfl) tyS44 (by rfl) (by rfl) (by rfl) (Res.tmp (by rfl) (by rfl) Res.nil))), rfl, by rfl, by rfl, by rfl⟩
noncomputable def exchangepointlaw22_OriginLonger_L0 (s3 : Int × (List api_Object) × exchangepointmake_Deck) : Option ((((List api_Object) × exchangepointmake_Deck)) ⊕ (Int × (List api_Object) × exchangepointmake_Deck)) :=
 (if (decide ((0 : Int) < s3.1)) = true then
 (exchangepointmake_Deck_Object s3.2.2).bind fun r14 =>
 (exchangepointmake_Deck_Next r14.2 (4 : Int)).bind fun r15 =>
 chk (decide ((s3.2.1 ++ ([(api_Object.mk r14.1.fPrefix r14.1.fMax r15.1)] : List api_Object)).length ≤ LIM)) <|
 some (.inr ((w64 (s3.1 - (1 : Int))), (s3.2.1 ++ ([(api_Object.mk r14.1.fPrefix r14.1.fMax r15.1)] : List api_Object)), r15.2))
 else
 some (.inl (s3.2.1, s3.2.2)))
noncomputable def exchangepointlaw22_OriginLonger_L1 (p12 : (List api_Object) × exchangepointmake_Deck) (r20 : Int) (r31 : Int × (List api_Object)) (r32 : api_Prefix × api_Prefix × Int) (s36 : Int) : Option (((Unit) ⊕ (Unit)) ⊕ (Int)) :=
 (if (decide (s36 < (([r32.1, r32.2.1] : List api_Prefix).length : Int))) = true then
 (idx ([r32.1, r32.2.1] : List api_Prefix) s36).bind fun x48 =>
 (origin_State p12.1 x48 r20).bind fun r49 =>
 (if (((r31.1 != (0 : Int)) && (r49.1 == (0 : Int))) || (decide ((r49.2.length : Int) < (r31.2.length : Int)))) = true then
 some (.inl (.inl ()))
 else
 some (.inr (w64 (s36 + (1 : Int)))))
 else
 some (.inl (.inr ())))
noncomputable def exchangepointlaw22_OriginLonger (a0 : (List Int)) (a1 : Int) : Option (Bool) :=
 (exchangepointmake_New a0).bind fun r1 =>
 (exchangepointmake_Deck_Next r1 (9 : Int)).bind fun r2 =>
 (loop (exchangepointlaw22_OriginLonger_L0) (r2.1, ([] : List api_Object), r2.2)).bind fun p12 =>
 (exchangepointmake_Deck_Prefix p12.2).bind fun r19 =>
 (exchangepointmake_Mod a1 (5 : Int)).bind fun r20 =>
 jn (fun m23 : Bool × exchangepointmake_Deck =>
 jn (fun m29 : api_Prefix =>
 (origin_State p12.1 m29 r20).bind fun r31 =>
 (exchangepointref02_Halves m29).bind fun r32 =>
 (if ((r20 == (0 : Int)) && (r31.1 == (1 : Int))) = true then
 some false
 else
 (if (r32.2.2 != (0 : Int)) = true then
 (exchangepointlaw22_awake).bind fun r35 =>
 some r35
 else
 (loop (exchangepointlaw22_OriginLonger_L1 p12 r20 r31 r32) (0 : Int)).bind fun x51 => match x51 with
 | (.inl _) =>
  some false
 | (.inr _) =>
  (exchangepointlaw22_awake).bind fun r53 =>
  some r53))) (fun j30 =>
 (if m23.1 = true then
 (exchangepointmake_Deck_Next m23.2 (p12.1.length : Int)).bind fun r55 =>
 (idx p12.1 r55.1).bind fun x56 =>
 (idx p12.1 r55.1).bind fun x57 =>
 j30 x57.fPrefix
 else
 j30 r19.1))) (fun j24 =>
 (if (decide ((0 : Int) < (p12.1.length : Int))) = true then
 (exchangepointmake_Deck_Next r19.2 (4 : Int)).bind fun r59 =>
 j24 ((decide ((0 : Int) < r59.1)), r59.2)
 else
 j24 (false, r19.2)))
theorem exchangepointlaw22_OriginLonger_ac (a0 : (List Int)) (a1 : Int) (r : Bool) (h : exchangepointlaw22_OriginLonger a0 a1 = some r) : AC Tryd.prog 5 [(.d (.list 1 (a0.map (eI .i64)))), (.d (.int .i64 a1))] [(500, (.know (globF 0 [82, 122, 123]))), (501, (.know (globF 1 [77, 124, 125])))] (.d (.bool r)) [(500, some (.know (globF 0 [82, 122, 123]))), (501, some (.know (globF 1 [77, 124, 125])))] := by
 refine AC.of_code2 Tryd.func5 rfl rfl (Nat.le_of_ble_eq_true (by rfl)) fun B hB hN => ?_
 have L {d : Nat} (h : Nat.blt d Tryd.f5.ntmps = true) : d < B.N := ltN hN h
 delta exchangepointlaw22_OriginLonger at h
 refine sr (c (OpJ.assign (L rfl) (Opd.bool false)) rfl cn) ?_
 apply AWp.seq
 obtain ⟨r1, hr1, h⟩ := bindS h
 refine AWp.region (oc (mv hN (ot 0 (qI_1 a0)))
 (oc (OpJ.callFn hB fnOk6 (exchangepointmake_New_ac a0 r1 hr1) [(1005, 100000)] (by kernel_rfl) (L rfl) (by kernel_rfl) (OpdL.cons (ot 20 (qI_1 a0)) OpdL.nil))
 (oc (OpJ.assign (L rfl) (ot 21 (pt 100000)))
 (OpJs.nil)))) (by rfl) (by rfl) ?_
 apply seqQ_n
 refine AWp.ghost (mp [] [(1, (i6 a1)), (5, (pt 100000))] [(500, some (.know (globF 0 [82, 122, 123]))), (501, some (.know (globF 1 [77, 124, 125]))), (100000, bd 60 (e_exchangepointmake_Deck r1))] hB) ?_
 refine sr (c (OpJ.assign (L rfl) Opd.nils) rfl cn) ?_
 apply AWp.seq
 apply AWp.seq
 obtain ⟨r2, hr2, h⟩ := bindS h
 refine AWp.region (oc (mv hN (ot 5 (pt 100000)))
 (oc (OpJ.callFn hB fnOk11 (exchangepointmake_Deck_Next_ac r1 (9 : Int) r2 hr2) [(0, 100000)] (by kernel_rfl) (L rfl) (by kernel_rfl) (OpdL.cons (ot 22 (pt 100000)) (OpdL.cons (Opd.int .i64 (9)) OpdL.nil)))
 (oc (OpJ.assign (L rfl) (ot 23 (i6 r2.1)))
 (OpJs.nil)))) (by rfl) (by rfl) ?_
 apply seqQ_n
 refine AWp.ghost (mp [] [(1, (i6 a1)), (5, (pt 100000)), (6, .nils), (7, (i6 r2.1))] [(500, some (.know (globF 0 [82, 122, 123]))), (501, some (.know (globF 1 [77, 124, 125]))), (100000, bd 60 (e_exchangepointmake_Deck r2.2))] hB) ?_
 apply AWp.block
 obtain ⟨p12, hx18, h⟩ := bindS h
 refine lg (exchangepointlaw22_OriginLonger_L0) (fun s3 : Int × (List api_Object) × exchangepointmake_Deck => ([(1, (i6 a1)), (5, (pt 100000)), (6, (.sref 3006 6 0 s3.2.1.length)), (7, (i6 s3.1))] : EL)) (fun s3 : Int × (List api_Object) × exchangepointmake_Deck => ([(500, some (.know (globF 0 [82, 122, 123]))), (501, some (.know (globF 1 [77, 124, 125]))), (3006, some (we_api_Object_46_6 s3.2.1)), (100000, bd 60 (e_exchangepointmake_Deck s3.2.2))] : OL)) (fun (p12 : ((List api_Object) × exchangepointmake_Deck)) e E' O' => e = .exit 0 ∧ Mat B E' O' ([(1, (i6 a1)), (5, (pt 100000)), (6, (.sref 3006 6 0 p12.1.length))] : EL) ([(500, some (.know (globF 0 [82, 122, 123]))), (501, some (.know (globF 1 [77, 124, 125]))), (3006, some (we_api_Object_46_6 p12.1)), (100000, bd 60 (e_exchangepointmake_Deck p12.2))] : OL)) hx18 (Mat.trans (Mat.beginP (n := 3006) (e := 46) (sz := 6) (Ts := [(6, (.sref 3006 6 0 0))]) (Bs := []) hB (by decide) (by rfl) (by decide) (TwT.cons (x := .nils) (by rfl) (Tw.leaf ⟨rfl, rfl⟩) TwT.nil) TwB.nil) (mp [] _ _ hB)) (fun s3 y h => ?_) (fun e E' O' hR => ?_)
 ·unfold exchangepointlaw22_OriginLonger_L0 at h
  apply AWp.seq
  refine sr (c (mv hN (q 7)) rfl (c (OpJ.gtr (L rfl) (q 24) (Opd.int .i64 (0))) rfl cn)) ?_
  refine AWp.cond rfl (fun hg13 => ?_) (fun hg13 => ?_)
  ·replace h := ite_t hg13 h
   apply AWp.skip
   apply seqQ_n
   apply AWp.seq
   apply AWp.block
   apply AWp.seq
   obtain ⟨r14, hr14, h⟩ := bindS h
   refine AWp.region (oc (mv hN (ot 5 (pt 100000)))
    (oc (OpJ.callFn hB fnOk12 (exchangepointmake_Deck_Object_ac s3.2.2 r14 hr14) [(0, 100000)] (by kernel_rfl) (L rfl) (by kernel_rfl) (OpdL.cons (ot 28 (pt 100000)) OpdL.nil))
    (oc (OpJ.alloc hB tyZ46 (nm := 1008) (by decide) (L rfl))
    (oc (OpJ.storeB (bt := 46) (c := (.d (.st [(.st [(.st [(.bool false), (.int .u64 0), (.int .u64 0)]), (.int .i64 0)]), (.int .i64 0), (.int .i64 0)]))) (v := (.d (e_api_Object r14.1))) (c' := (.d (e_api_Object r14.1))) tyS46 (SetAt.here _ _) (by rfl) (by rfl) (by simp) rfl (ot 8 (pt 1008)) (ot 29 (.d (e_api_Object r14.1))))
    (OpJs.nil))))) (by rfl) (by rfl) ?_
   apply seqQ_n
   refine AWp.ghost (mp [] [(1, (i6 a1)), (5, (pt 100000)), (6, (.sref 3006 6 0 s3.2.1.length)), (7, (i6 s3.1)), (8, (pt 1008))] [(500, some (.know (globF 0 [82, 122, 123]))), (501, some (.know (globF 1 [77, 124, 125]))), (1008, bd 46 (e_api_Object r14.1)), (3006, some (we_api_Object_46_6 s3.2.1)), (100000, bd 60 (e_exchangepointmake_Deck r14.2))] hB) ?_
   apply AWp.seq
   obtain ⟨r15, hr15, h⟩ := bindS h
   refine AWp.region (oc (mv hN (ot 5 (pt 100000)))
    (oc (OpJ.callFn hB fnOk11 (exchangepointmake_Deck_Next_ac r14.2 (4 : Int) r15 hr15) [(0, 100000)] (by kernel_rfl) (L rfl) (by kernel_rfl) (OpdL.cons (ot 30 (pt 100000)) (OpdL.cons (Opd.int .i64 (4)) OpdL.nil)))
    (oc (ov (.ptr 1008 5 [2]) (fp hN underlying46 5 tyS3 (.box 46 (.d (e_api_Object r14.1))) (ot 8 (pt 1008))))
    (oc (OpJ.storeB (bt := 46) (c := (.d (e_api_Object r14.1))) (v := (i6 r15.1)) (c' := (.d (.st [(e_api_Prefix r14.1.fPrefix), (.int .i64 r14.1.fMax), (.int .i64 r15.1)]))) tyS3 (SetAt.dst1 (f := (.int .i64 r14.1.fASN)) (f' := (.int .i64 r15.1)) (by rfl) (by rfl) (SetAt.here _ _) (by rfl) (by rfl) (by first | rfl | omega)) (by rfl) (by rfl) (by simp) rfl (ot 32 (.ptr 1008 5 [2])) (ot 31 (i6 r15.1)))
    (OpJs.nil))))) (by rfl) (by rfl) ?_
   apply seqQ_n
   refine AWp.ghost (mp [] [(1, (i6 a1)), (5, (pt 100000)), (6, (.sref 3006 6 0 s3.2.1.length)), (7, (i6 s3.1)), (8, (pt 1008))] [(500, some (.know (globF 0 [82, 122, 123]))), (501, some (.know (globF 1 [77, 124, 125]))), (1008, bd 46 (.st [(e_api_Prefix r14.1.fPrefix), (.int .i64 r14.1.fMax), (.int .i64 r15.1)])), (3006, some (we_api_Object_46_6 s3.2.1)), (100000, bd 60 (e_exchangepointmake_Deck r15.2))] hB) ?_
   obtain ⟨hc16, h⟩ := chk_some h
   refine rg (c (mv hN (q 6)) rfl (c (lb hN 46 _ _ tyS46 (At.here _) (q 8)) rfl (c (OpJ.buildSlice underlying38 tyS46 tyZD46 (by rfl) (by decide) (by decide) (Opds.cons (q 34) Opds.nil) (by kernel_rfl) (es := ([(.st [(e_api_Prefix r14.1.fPrefix), (.int .i64 r14.1.fMax), (.int .i64 r15.1)])] : List D)) (by rfl) (by rfl) (by kernel_rfl) (by simp) (L rfl)) rfl (cg (apd hB underlying38 tyE46 1036 e_api_Object s3.2.1 ([(api_Object.mk r14.1.fPrefix r14.1.fMax r15.1)] : List api_Object) hc16 (L rfl) (q 33) (q 35)) rfl (c (OpJ.assign (L rfl) (q 36)) rfl cn))))) ?_
   apply blkQ_n
   apply seqQ_n
   refine rg (c (mv hN (q 7)) rfl (c (sub6 (L rfl) (q 26) (Opd.int .i64 (1))) rfl (c (OpJ.assign (L rfl) (q 27)) rfl cn))) ?_
   obtain rfl := Option.some.inj h
   exact ⟨rfl, (mp [(3006, 1036)] _ _ hB)⟩
  ·replace h := ite_f hg13 h
   apply AWp.exit
   apply seqQ_e
   obtain rfl := Option.some.inj h
   exact ⟨(fun hc => by cases hc), rfl, (mp [] _ _ hB)⟩
 ·obtain ⟨rfl, hmat⟩ := hR
  apply blkQ_hit
  apply seqQ_n
  refine AWp.ghost hmat ?_
  apply AWp.seq
  obtain ⟨r19, hr19, h⟩ := bindS h
  obtain ⟨r20, hr20, h⟩ := bindS h
  refine AWp.region (oc (mv hN (ot 5 (pt 100000)))
   (oc (OpJ.callFn hB fnOk13 (exchangepointmake_Deck_Prefix_ac p12.2 r19 hr19) [(0, 100000)] (by kernel_rfl) (L rfl) (by kernel_rfl) (OpdL.cons (ot 37 (pt 100000)) OpdL.nil))
   (oc (mv hN (ot 1 (i6 a1)))
   (oc (cf hB fnOk8 (exchangepointmake_Mod_ac a1 (5 : Int) r20 hr20) (L rfl) (OpdL.cons (ot 39 (i6 a1)) (OpdL.cons (Opd.int .i64 (5)) OpdL.nil)))
   (oc (OpJ.alloc hB tyZ44 (nm := 1009) (by decide) (L rfl))
   (oc (OpJ.storeB (bt := 44) (c := (.d (.st [(.st [(.bool false), (.int .u64 0), (.int .u64 0)]), (.int .i64 0)]))) (v := (.d (e_api_Prefix r19.1))) (c' := (.d (e_api_Prefix r19.1))) tyS44 (SetAt.here _ _) (by rfl) (by rfl) (by simp) rfl (ot 9 (pt 1009)) (ot 38 (.d (e_api_Prefix r19.1))))
   (oc (OpJ.assign (L rfl) (ot 40 (i6 r20)))
   (OpJs.nil)))))))) (by rfl) (by rfl) ?_
  apply seqQ_n
  refine AWp.ghost (mp [] [(5, (pt 100000)), (6, (.sref 3006 6 0 p12.1.length)), (9, (pt 1009)), (10, (i6 r20))] [(500, some (.know (globF 0 [82, 122, 123]))), (501, some (.know (globF 1 [77, 124, 125]))), (1009, bd 44 (e_api_Prefix r19.1)), (3006, some (we_api_Object_46_6 p12.1)), (100000, bd 60 (e_exchangepointmake_Deck r19.2))] hB) ?_
  apply AWp.seq
  apply AWp.seq
  refine AWp.cut h (fun m23 : Bool × exchangepointmake_Deck => ([(5, (pt 100000)), (6, (.sref 3006 6 0 p12.1.length)), (9, (pt 1009)), (10, (i6 r20)), (48, (bo m23.1))] : EL)) (fun m23 : Bool × exchangepointmake_Deck => ([(500, some (.know (globF 0 [82, 122, 123]))), (501, some (.know (globF 1 [77, 124, 125]))), (1009, bd 44 (e_api_Prefix r19.1)), (3006, some (we_api_Object_46_6 p12.1)), (100000, bd 60 (e_exchangepointmake_Deck m23.2))] : OL)) (fun m23 h E' O' hmat => ?_) (fun j24 hjj24 h => ?_)
  ·apply seqQ_n
   refine AWp.ghost hmat ?_
   refine AWp.cut h (fun m29 : api_Prefix => ([(6, (.sref 3006 6 0 p12.1.length)), (9, (pt 1009)), (10, (i6 r20))] : EL)) (fun m29 : api_Prefix => ([(500, some (.know (globF 0 [82, 122, 123]))), (501, some (.know (globF 1 [77, 124, 125]))), (1009, bd 44 (e_api_Prefix m29)), (3006, some (we_api_Object_46_6 p12.1))] : OL)) (fun m29 h E' O' hmat => ?_) (fun j30 hjj30 h => ?_)
   ·apply seqQ_n
    refine AWp.ghost hmat ?_
    apply AWp.seq
    refine AWp.ghost (Mat.freezeP (n := 3006) (e := 46) (sz := 6) (es := p12.1.map e_api_Object) (Ts := [(6, (qe_api_Object_6 p12.1))]) (Bs := []) (by rfl) (TwT.cons (x := (.sref 3006 6 0 p12.1.length)) (by rfl) (FrzL.all (by first | rfl | (simp; done) | (simp; omega) | omega)) TwT.nil) TwB.nil) ?_
    obtain ⟨r31, hr31, h⟩ := bindS h
    refine rg (c (mv hN (q 6)) rfl (c (lb hN 44 _ _ tyS44 (At.here _) (q 9)) rfl (c (mv hN (q 10)) rfl (cg (cf hB fnOk15 (origin_State_ac p12.1 m29 r20 r31 hr31) (L rfl) (OpdL.cons (q 58) (OpdL.cons (q 59) (OpdL.cons (q 60) OpdL.nil)))) rfl (c (mv hN (q 61)) rfl (c (OpJ.extract (by rfl) rfl (L rfl) (q 57)) rfl (c (OpJ.extract (by rfl) rfl (L rfl) (q 57)) rfl (c (OpJ.assign (L rfl) (q 62)) rfl (c (OpJ.assign (L rfl) (q 63)) rfl cn))))))))) ?_
    apply seqQ_n
    obtain ⟨r32, hr32, h⟩ := bindS h
    refine sr (c (lb hN 44 _ _ tyS44 (At.here _) (q 9)) rfl (cg (cf hB fnOk18 (exchangepointref02_Halves_ac m29 r32 hr32) (L rfl) (OpdL.cons (q 65) OpdL.nil)) rfl (c (mv hN (q 66)) rfl (c (OpJ.extract (by rfl) rfl (L rfl) (q 64)) rfl (c (OpJ.extract (by rfl) rfl (L rfl) (q 64)) rfl (c (OpJ.extract (by rfl) rfl (L rfl) (q 64)) rfl (cg (OpJ.alloc hB tyZ44 (nm := 1013) (by decide) (L rfl)) rfl (cg (OpJ.alloc hB tyZ44 (nm := 1014) (by decide) (L rfl)) rfl (cg (sB tyS44 (q 13) (q 67)) rfl (cg (sB tyS44 (q 14) (q 68)) rfl (c (OpJ.assign (L rfl) (q 69)) rfl cn))))))))))) ?_
    apply AWp.seq
    refine sr (c (mv hN (q 10)) rfl (c (OpJ.eqlI (L rfl) (q 70) (Opd.int .i64 (0))) rfl (c (mv hN (q 71)) rfl (c (oq hN 72 (mv hN (q 11)) (OptL.keep (by rfl) OptL.nil) (GuardV.plain _)) rfl (c (oq hN 72 (OpJ.eqlI (L rfl) (q 73) (Opd.int .i64 (1))) (OptL.opt OptL.nil) (GuardV.plain _)) rfl (c (OpJ.pickAnd rfl (L rfl) (q 72) (q 74)) rfl cn)))))) ?_
    refine AWp.cond rfl (fun hg33 => ?_) (fun hg33 => ?_)
    ·replace h := ite_t hg33 h
     refine sr (c (OpJ.assign (L rfl) (Opd.bool false)) rfl cn) ?_
     apply AWp.ret
     apply seqQ_r
     obtain rfl := Option.some.inj h
     exact ⟨.inl rfl, _, _, (kp [(4, _)] [(500, some _), (501, some _)] hB rfl rfl (by rfl)), [(bo false)], (Res.tmp (by rfl) (by rfl) Res.nil), rfl, by rfl, by rfl, by rfl⟩
    ·replace h := ite_f hg33 h
     apply AWp.skip
     apply seqQ_n
     apply AWp.seq
     refine sr (c (mv hN (q 15)) rfl (c (OpJ.neqI (L rfl) (q 76) (Opd.int .i64 (0))) rfl cn)) ?_
     refine AWp.cond rfl (fun hg34 => ?_) (fun hg34 => ?_)
     ·replace h := ite_t hg34 h
      apply AWp.seq
      obtain ⟨r35, hr35, h⟩ := bindS h
      refine AWp.region (oc (OpJ.callFn hB fnOk10 (exchangepointlaw22_awake_ac  r35 hr35) [(500, 500), (501, 501)] (by kernel_rfl) (L rfl) (by kernel_rfl) OpdL.nil)
       (oc (OpJ.assign (L rfl) (ot 78 (bo r35)))
       (OpJs.nil))) (by rfl) (by rfl) ?_
      apply seqQ_n
      refine AWp.ghost (mp [] [(4, (bo r35))] [(500, some (.know (globF 0 [82, 122, 123]))), (501, some (.know (globF 1 [77, 124, 125])))] hB) ?_
      apply AWp.ret
      apply seqQ_r
      obtain rfl := Option.some.inj h
      exact ⟨.inl rfl, _, _, (kp [(4, _)] [(500, some _), (501, some _)] hB rfl rfl (by rfl)), [(bo r35)], (Res.tmp (by rfl) (by rfl) Res.nil), rfl, by rfl, by rfl, by rfl⟩
     ·replace h := ite_f hg34 h
      apply AWp.skip
      apply seqQ_n
      apply AWp.seq
      refine sr (c (lb hN 44 _ _ tyS44 (At.here _) (q 13)) rfl (c (lb hN 44 _ _ tyS44 (At.here _) (q 14)) rfl (c (OpJ.buildSlice underlying49 tyS44 tyZD44 (by rfl) (by decide) (by decide) (Opds.cons (q 79) (Opds.cons (q 80) Opds.nil)) (by kernel_rfl) (es := ([(e_api_Prefix r32.1), (e_api_Prefix r32.2.1)] : List D)) (by rfl) (by rfl) (by kernel_rfl) (by simp) (L rfl)) rfl (c (OpJ.val (v' := (i6 (([r32.1, r32.2.1] : List api_Prefix).length : Int))) (by simp) (OpJ.lenD underlying49 (L rfl) (q 81))) rfl (c (mv hN (Opd.int .i64 (0))) rfl cn))))) ?_
      apply AWp.block
      obtain ⟨x51, hx52, h⟩ := bindS h
      refine lg (exchangepointlaw22_OriginLonger_L1 p12 r20 r31 r32) (fun s36 : Int => ([(6, (qe_api_Object_6 p12.1)), (10, (i6 r20)), (11, (i6 r31.1)), (12, (qe_api_Object_6 r31.2)), (81, (qe_api_Prefix_4 ([r32.1, r32.2.1] : List api_Prefix))), (82, (i6 (([r32.1, r32.2.1] : List api_Prefix).length : Int))), (83, (i6 s36))] : EL)) (fun s36 : Int => ([(500, some (.know (globF 0 [82, 122, 123]))), (501, some (.know (globF 1 [77, 124, 125])))] : OL)) (fun (x : (Unit) ⊕ (Unit)) e E' O' => match x with | (.inl _p) => e = .ret ∧ Mat B E' O' ([(4, (bo false))] : EL) ([(500, some (.know (globF 0 [82, 122, 123]))), (501, some (.know (globF 1 [77, 124, 125])))] : OL) | (.inr _p) => e = .exit 2 ∧ Mat B E' O' ([] : EL) ([(500, some (.know (globF 0 [82, 122, 123]))), (501, some (.know (globF 1 [77, 124, 125])))] : OL)) hx52 (mp [] _ _ hB) (fun s36 y h => ?_) (fun e E' O' hR => ?_)
      ·unfold exchangepointlaw22_OriginLonger_L1 at h
       refine sr (c (OpJ.lss (L rfl) (q 83) (q 82)) rfl cn) ?_
       apply AWp.seq
       refine AWp.cond rfl (fun hg47 => ?_) (fun hg47 => ?_)
       ·replace h := ite_t hg47 h
        apply AWp.skip
        apply seqQ_n
        apply AWp.seq
        apply AWp.block
        obtain ⟨x48, hx48, h⟩ := bindS h
        refine sr (c (OpJ.indexD underlying49 tyS44 (idx_some hx48).1 (get_map e_api_Prefix (idx_some hx48).2) (L rfl) (q 81) (q 83)) rfl (c (OpJ.loadD tyS44 (by rfl) (by rfl) (L rfl) (q 85)) rfl (cg (OpJ.alloc hB tyZ44 (nm := 1017) (by decide) (L rfl)) rfl (cg (sB tyS44 (q 17) (q 86)) rfl cn)))) ?_
        obtain ⟨r49, hr49, h⟩ := bindS h
        refine sr (c (mv hN (q 6)) rfl (c (lb hN 44 _ _ tyS44 (At.here _) (q 17)) rfl (c (mv hN (q 10)) rfl (cg (cf hB fnOk15 (origin_State_ac p12.1 x48 r20 r49 hr49) (L rfl) (OpdL.cons (q 88) (OpdL.cons (q 89) (OpdL.cons (q 90) OpdL.nil)))) rfl (c (mv hN (q 91)) rfl (c (OpJ.extract (by rfl) rfl (L rfl) (q 87)) rfl (c (OpJ.extract (by rfl) rfl (L rfl) (q 87)) rfl (c (OpJ.assign (L rfl) (q 92)) rfl (c (OpJ.assign (L rfl) (q 93)) rfl cn))))))))) ?_
        refine sr (c (mv hN (q 11)) rfl (c (OpJ.neqI (L rfl) (q 94) (Opd.int .i64 (0))) rfl (c (mv hN (q 95)) rfl (c (oq hN 96 (mv hN (q 18)) (OptL.keep (by rfl) OptL.nil) (GuardV.plain _)) rfl (c (oq hN 96 (OpJ.eqlI (L rfl) (q 97) (Opd.int .i64 (0))) (OptL.opt OptL.nil) (GuardV.plain _)) rfl (c (OpJ.pickAnd rfl (L rfl) (q 96) (q 98)) rfl (c (mv hN (q 99)) rfl (c (oq hN 100 (mv hN (q 19)) (OptL.keep (by rfl) OptL.nil) (GuardV.plain _)) rfl (c (oq hN 100 (OpJ.val (v' := (i6 (r49.2.length : Int))) (by simp) (OpJ.lenD underlying38 (L rfl) (q 101))) (OptL.opt OptL.nil) (GuardV.plain _)) rfl (c (oq hN 100 (mv hN (q 12)) (OptL.keep (by rfl) OptL.nil) (GuardV.plain _)) rfl (c (oq hN 100 (OpJ.val (v' := (i6 (r31.2.length : Int))) (by simp) (OpJ.lenD underlying38 (L rfl) (q 103))) (OptL.opt OptL.nil) (GuardV.plain _)) rfl (c (oq hN 100 (OpJ.lss (L rfl) (q 102) (q 104)) (OptL.opt (OptL.opt OptL.nil)) (GuardV.plain _)) rfl (c (OpJ.pickOr rfl (L rfl) (q 100) (q 105)) rfl cn))))))))))))) ?_
        refine AWp.cond rfl (fun hg50 => ?_) (fun hg50 => ?_)
        ·replace h := ite_t hg50 h
         refine sr (c (OpJ.assign (L rfl) (Opd.bool false)) rfl cn) ?_
         apply AWp.ret
         apply blkQ_r
         apply seqQ_r
         obtain rfl := Option.some.inj h
         exact ⟨(fun hc => by cases hc), rfl, (mp [] _ _ hB)⟩
        ·replace h := ite_f hg50 h
         apply AWp.skip
         apply blkQ_n
         apply seqQ_n
         refine rg (c (add6 (L rfl) (q 83) (Opd.int .i64 (1))) rfl (c (mv hN (q 107)) rfl cn)) ?_
         obtain rfl := Option.some.inj h
         exact ⟨rfl, (mp [] _ _ hB)⟩
       ·replace h := ite_f hg47 h
        apply AWp.exit
        apply seqQ_e
        obtain rfl := Option.some.inj h
        exact ⟨(fun hc => by cases hc), rfl, (mp [] _ _ hB)⟩
      ·rcases x51 with _ | _
       ·obtain ⟨rfl, hmat⟩ := hR
        apply blkQ_r
        apply seqQ_r
        obtain rfl := Option.some.inj h
        exact ⟨.inl rfl, _, _, (Mat.trans hmat (mp [] [(4, (bo false))] [(500, some (.know (globF 0 [82, 122, 123]))), (501, some (.know (globF 1 [77, 124, 125])))] hB)), [(bo false)], (Res.tmp (by rfl) (by rfl) Res.nil), rfl, by rfl, by rfl, by rfl⟩
       ·obtain ⟨rfl, hmat⟩ := hR
        apply blkQ_hit
        apply seqQ_n
        refine AWp.ghost hmat ?_
        apply AWp.seq
        obtain ⟨r53, hr53, h⟩ := bindS h
        refine AWp.region (oc (OpJ.callFn hB fnOk10 (exchangepointlaw22_awake_ac  r53 hr53) [(500, 500), (501, 501)] (by kernel_rfl) (L rfl) (by kernel_rfl) OpdL.nil)
         (oc (OpJ.assign (L rfl) (ot 108 (bo r53)))
         (OpJs.nil))) (by rfl) (by rfl) ?_
        apply seqQ_n
        refine AWp.ghost (mp [] [(4, (bo r53))] [(500, some (.know (globF 0 [82, 122, 123]))), (501, some (.know (globF 1 [77, 124, 125])))] hB) ?_
        apply AWp.ret
        obtain rfl := Option.some.inj h
        exact ⟨.inl rfl, _, _, (kp [(4, _)] [(500, some _), (501, some _)] hB rfl rfl (by rfl)), [(bo r53)], (Res.tmp (by rfl) (by rfl) Res.nil), rfl, by rfl, by rfl, by rfl⟩
   ·refine AWp.cond rfl (fun hg54 => ?_) (fun hg54 => ?_)
    ·replace h := ite_t hg54 h
     obtain ⟨r55, hr55, h⟩ := bindS h
     obtain ⟨x56, hx56, h⟩ := bindS h
     obtain ⟨x57, hx57, h⟩ := bindS h
     refine AWp.region (oc (mv hN (ot 6 (.sref 3006 6 0 p12.1.length)))
      (oc (mv hN (ot 5 (pt 100000)))
      (oc (mv hN (ot 6 (.sref 3006 6 0 p12.1.length)))
      (oc (OpJ.lenS (obj := (we_api_Object_46_6 p12.1)) underlying38 (L rfl) (ot 51 (.sref 3006 6 0 p12.1.length)))
      (oc (OpJ.callFn hB fnOk11 (exchangepointmake_Deck_Next_ac m23.2 (p12.1.length : Int) r55 hr55) [(0, 100000)] (by kernel_rfl) (L rfl) (by kernel_rfl) (OpdL.cons (ot 50 (pt 100000)) (OpdL.cons (ot 52 (i6 (p12.1.length : Int))) OpdL.nil)))
      (oc (OpJ.val (v' := (.ptr 3006 (r55.1.toNat * 6) [r55.1.toNat])) (by simp) (OpJ.indexS underlying38 tyS46 (obj := (we_api_Object_46_6 p12.1)) (idx_some hx56).1 (by have := idx_lt hx56; first | (simpa using this) | ((try simp only [List.length_map] at this); (try simp only [List.length_map]); omega)) (L rfl) (ot 49 (.sref 3006 6 0 p12.1.length)) (ot 53 (i6 r55.1))))
      (oc (ov (.ptr 3006 ((r55.1.toNat * 6) + 0) [r55.1.toNat, 0]) (fp hN underlying46 0 tyS44 (we_api_Object_46_6 p12.1) (ot 54 (.ptr 3006 (r55.1.toNat * 6) [r55.1.toNat]))))
      (oc (OpJ.loadR (e := 46) (sz := 6) (es := p12.1.map e_api_Object) tyS44 (get_map e_api_Object (idx_some hx57).2) (o := 0) (v := (e_api_Prefix x57.fPrefix)) (ad (e_api_Prefix x57.fPrefix)) (by rfl) (by rfl) (by rfl) (L rfl) (ot 55 (.ptr 3006 ((r55.1.toNat * 6) + 0) [r55.1.toNat, 0])))
      (oc (OpJ.storeB (bt := 44) (c := (.d (e_api_Prefix r19.1))) (v := (.d (e_api_Prefix x57.fPrefix))) (c' := (.d (e_api_Prefix x57.fPrefix))) tyS44 (SetAt.here _ _) (by rfl) (by rfl) (by simp) rfl (ot 9 (pt 1009)) (ot 56 (.d (e_api_Prefix x57.fPrefix))))
      (OpJs.nil)))))))))) (by rfl) (by rfl) ?_
     exact hjj30 _ h _ _ (mp [] _ _ hB)
    ·replace h := ite_f hg54 h
     apply AWp.skip
     exact hjj30 _ h _ _ (mp [] _ _ hB)
  ·rcases Bool.eq_false_or_eq_true (decide ((0 : Int) < (p12.1.length : Int))) with hg58 | hg58
   ·replace h := ite_t hg58 h
    obtain ⟨r59, hr59, h⟩ := bindS h
    refine AWp.region (oc (mv hN (ot 6 (.sref 3006 6 0 p12.1.length)))
     (oc (OpJ.lenS (obj := (we_api_Object_46_6 p12.1)) underlying38 (L rfl) (ot 41 (.sref 3006 6 0 p12.1.length)))
     (oc (OpJ.gtr (L rfl) (ot 42 (i6 (p12.1.length : Int))) (Opd.int .i64 (0)))
     (oc (OpJ.val (v' := .d (.bool true)) (by rw [hg58] <;> rfl) (mv hN (ot 43 (bo (decide ((0 : Int) < (p12.1.length : Int)))))))
     (oc (gd 44 (mv hN (ot 5 (pt 100000))))
     (oc (gd 44 (OpJ.callFn hB fnOk11 (exchangepointmake_Deck_Next_ac r19.2 (4 : Int) r59 hr59) [(0, 100000)] (by kernel_rfl) (L rfl) (by kernel_rfl) (OpdL.cons (ot 45 (pt 100000)) (OpdL.cons (Opd.int .i64 (4)) OpdL.nil))))
     (oc (gd 44 (OpJ.gtr (L rfl) (ot 46 (i6 r59.1)) (Opd.int .i64 (0))))
     (oc (OpJ.pickT (L rfl) (ot 44 (bo true)) (ot 47 (bo (decide ((0 : Int) < r59.1)))))
     (OpJs.nil))))))))) (by rfl) (by rfl) ?_
    exact hjj24 _ h _ _ (mp [] _ _ hB)
   ·replace h := ite_f hg58 h
    refine rg (c (mv hN (q 6)) rfl (c (OpJ.lenS underlying38 (L rfl) (q 41)) rfl (c (OpJ.gtr (L rfl) (q 42) (Opd.int .i64 (0))) rfl (c (OpJ.val (v' := .d (.bool false)) (by rw [hg58] <;> rfl) (mv hN (q 43))) rfl (cg (sU 44 (L rfl)) rfl (cg (sU 44 (L rfl)) rfl (cg (sU 44 (L rfl)) rfl (c (OpJ.pickF (L rfl) (q 44) (Opd.bool false)) rfl cn)))))))) ?_
    exact hjj24 _ h _ _ (mp [] _ _ hB)
end Go.Proofs.YtgfoabcickjphaaDoor

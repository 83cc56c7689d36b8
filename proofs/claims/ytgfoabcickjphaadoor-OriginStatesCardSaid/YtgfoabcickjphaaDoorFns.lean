/- Printed by gen.py: the Go functions as plain functions, and that the code does what they say. -/
import Derived.Test.YtgfoabcickjphaaDoorChecked
import Derived.Test.YtgfoabcickjphaaDoorVcYB
import Derived.Test.YtgfoabcickjphaaDoorVcZ
import Derived.KernelRfl
import Derived.Test.YtgfoabcickjphaaDoorVcMD
import Derived.Test.YtgfoabcickjphaaDoorVcMQ
import Derived.Test.YtgfoabcickjphaaDoorVcSG
import Derived.Test.YtgfoabcickjphaaDoorFnsC
import Derived.Test.YtgfoabcickjphaaDoorExt
import Derived.Test.YtgfoabcickjphaaDoorVcGl
import Derived.Test.YtgfoabcickjphaaDoorVcWS
namespace Go.Proofs.YtgfoabcickjphaaDoor
open Go Go.Vc
open Tryd
set_option maxHeartbeats 4000000
set_option maxRecDepth 100000
noncomputable def exchangepointlaw22_awake : Option (Bool) :=
 (exchangepointlaw22_awake_1 (0 : Int) (8 : Int)).bind fun r1 =>
 (exchangepointref21_Of ([r1] : List api_Prefix) ([] : List api_Span)).bind fun r2 =>
 (exchangepointlaw22_awake_1 (1 : Int) (16 : Int)).bind fun r3 =>
 (exchangepointref21_Of ([r3] : List api_Prefix) ([] : List api_Span)).bind fun r4 =>
 (exchangepointlaw22_awake_1 (1 : Int) (16 : Int)).bind fun r5 =>
 (origin_Payloads ([(api_Cert.mk (1 : Int) (1 : Int) (0 : Int) (9 : Int) r2.1), (api_Cert.mk (2 : Int) (1 : Int) (0 : Int) (9 : Int) r4.1)] : List api_Cert) ([(api_Signed.mk (2 : Int) (7 : Int) (0 : Int) (9 : Int) ([(api_Object.mk r5 (16 : Int) (7 : Int))] : List api_Object))] : List api_Signed) ([(1 : Int)] : List Int) (5 : Int)).bind fun r6 =>
 (exchangepointlaw22_awake_1 (1 : Int) (16 : Int)).bind fun r7 =>
 (origin_State r6.1 r7 (7 : Int)).bind fun r8 =>
 (exchangepointlaw22_awake_1 (1 : Int) (16 : Int)).bind fun r9 =>
 (origin_State r6.1 r9 (8 : Int)).bind fun r10 =>
 some ((((r6.2 == (0 : Int)) && ((r6.1.length : Int) == (1 : Int))) && (r8.1 == (1 : Int))) && (r10.1 == (2 : Int)))
theorem exchangepointlaw22_awake_ac (r : Bool) (h : exchangepointlaw22_awake = some r) : AC Tryd.prog 10 [] [(500, (.know (globF 0 [82, 122, 123]))), (501, (.know (globF 1 [77, 124, 125])))] (.d (.bool r)) [(500, some (.know (globF 0 [82, 122, 123]))), (501, some (.know (globF 1 [77, 124, 125])))] := by
 refine AC.of_code2 Tryd.func10 rfl rfl (Nat.le_of_ble_eq_true (by rfl)) fun B hB hN => ?_
 have L {d : Nat} (h : Nat.blt d Tryd.f10.ntmps = true) : d < B.N := ltN hN h
 delta exchangepointlaw22_awake at h
 refine sr (c (OpJ.assign (L rfl) (Opd.bool false)) rfl cn) ?_
 refine sr (c (OpJ.assign (L rfl) (Opd.func 26)) rfl cn) ?_
 obtain ⟨r1, hr1, h⟩ := bindS h
 obtain ⟨r2, hr2, h⟩ := bindS h
 refine sr (c (mv hN (q 1)) rfl (cg (OpJ.callVal (args := [(i6 0), (i6 (8 : Int))]) (caps := []) hB fnOk26 [] (exchangepointlaw22_awake_1_ac (0 : Int) (8 : Int) r1 hr1) (by kernel_rfl) (L rfl) (by kernel_rfl) (by kernel_rfl) (OpdL.cons (Opd.int .i64 (0)) (OpdL.cons (Opd.int .i64 (8)) OpdL.nil))) rfl (c (OpJ.buildSlice underlying49 tyS44 tyZD44 (by rfl) (by decide) (by decide) (Opds.cons (q 15) Opds.nil) (by kernel_rfl) (es := ([(e_api_Prefix r1)] : List D)) (by rfl) (by rfl) (by kernel_rfl) (by simp) (L rfl)) rfl (cg (cf hB fnOk19 (exchangepointref21_Of_ac ([r1] : List api_Prefix) ([] : List api_Span) r2 hr2) (L rfl) (OpdL.cons (q 16) (OpdL.cons (Opd.tw Opd.nils (Tw.leaf ⟨_, (Co.nils 2), rfl⟩)) OpdL.nil))) rfl (c (mv hN (q 17)) rfl (c (OpJ.extract (by rfl) rfl (L rfl) (q 13)) rfl (c (OpJ.extract (by rfl) rfl (L rfl) (q 13)) rfl (cg (OpJ.alloc hB tyZ26 (nm := 1002) (by decide) (L rfl)) rfl (cg (sB tyS26 (q 2) (q 18)) rfl (c (OpJ.assign (L rfl) (q 19)) rfl cn)))))))))) ?_
 obtain ⟨r3, hr3, h⟩ := bindS h
 obtain ⟨r4, hr4, h⟩ := bindS h
 refine sr (c (mv hN (q 1)) rfl (cg (OpJ.callVal (args := [(i6 1), (i6 (16 : Int))]) (caps := []) hB fnOk26 [] (exchangepointlaw22_awake_1_ac (1 : Int) (16 : Int) r3 hr3) (by kernel_rfl) (L rfl) (by kernel_rfl) (by kernel_rfl) (OpdL.cons (Opd.int .i64 (1)) (OpdL.cons (Opd.int .i64 (16)) OpdL.nil))) rfl (c (OpJ.buildSlice underlying49 tyS44 tyZD44 (by rfl) (by decide) (by decide) (Opds.cons (q 22) Opds.nil) (by kernel_rfl) (es := ([(e_api_Prefix r3)] : List D)) (by rfl) (by rfl) (by kernel_rfl) (by simp) (L rfl)) rfl (cg (cf hB fnOk19 (exchangepointref21_Of_ac ([r3] : List api_Prefix) ([] : List api_Span) r4 hr4) (L rfl) (OpdL.cons (q 23) (OpdL.cons (Opd.tw Opd.nils (Tw.leaf ⟨_, (Co.nils 2), rfl⟩)) OpdL.nil))) rfl (c (mv hN (q 24)) rfl (c (OpJ.extract (by rfl) rfl (L rfl) (q 20)) rfl (c (OpJ.extract (by rfl) rfl (L rfl) (q 20)) rfl (cg (OpJ.alloc hB tyZ26 (nm := 1004) (by decide) (L rfl)) rfl (cg (sB tyS26 (q 4) (q 25)) rfl (c (OpJ.assign (L rfl) (q 26)) rfl cn)))))))))) ?_
 refine sr (c (lb hN 26 _ _ tyS26 (At.here _) (q 2)) rfl (c (OpJ.coe (v := (.st [(i6 1), (i6 1), (i6 0), (i6 (9 : Int)), (.d (e_api_Resources r2.1))])) (y := (.st [(.int .i64 1), (.int .i64 1), (.int .i64 0), (.int .i64 (9 : Int)), (e_api_Resources r2.1)])) (Co.st (CoL.cons (Co.d _) (CoL.cons (Co.d _) (CoL.cons (Co.d _) (CoL.cons (Co.d _) (CoL.cons (Co.d _) CoL.nil)))))) rfl (OpJ.build (places := [(0, 1), (1, 1), (2, 1), (3, 1), (4, 2)]) ⟨underlying33, fun w => by kernel_rfl⟩ tyZS33 (Opds.cons (Opd.int .i64 (1)) (Opds.cons (Opd.int .i64 (1)) (Opds.cons (Opd.int .i64 (9)) (Opds.cons (q 27) Opds.nil)))) (by kernel_rfl) (r := (.st [(i6 1), (i6 1), (i6 0), (i6 (9 : Int)), (.d (e_api_Resources r2.1))])) (by rfl) (L rfl))) rfl (c (lb hN 26 _ _ tyS26 (At.here _) (q 4)) rfl (c (OpJ.coe (v := (.st [(i6 (2 : Int)), (i6 1), (i6 0), (i6 (9 : Int)), (.d (e_api_Resources r4.1))])) (y := (.st [(.int .i64 (2 : Int)), (.int .i64 1), (.int .i64 0), (.int .i64 (9 : Int)), (e_api_Resources r4.1)])) (Co.st (CoL.cons (Co.d _) (CoL.cons (Co.d _) (CoL.cons (Co.d _) (CoL.cons (Co.d _) (CoL.cons (Co.d _) CoL.nil)))))) rfl (OpJ.build (places := [(0, 1), (1, 1), (2, 1), (3, 1), (4, 2)]) ⟨underlying33, fun w => by kernel_rfl⟩ tyZS33 (Opds.cons (Opd.int .i64 (2)) (Opds.cons (Opd.int .i64 (1)) (Opds.cons (Opd.int .i64 (9)) (Opds.cons (q 29) Opds.nil)))) (by kernel_rfl) (r := (.st [(i6 (2 : Int)), (i6 1), (i6 0), (i6 (9 : Int)), (.d (e_api_Resources r4.1))])) (by rfl) (L rfl))) rfl (c (OpJ.buildSlice underlying30 tyS33 tyZD33 (by rfl) (by decide) (by decide) (Opds.cons (q 28) (Opds.cons (q 30) Opds.nil)) (by kernel_rfl) (es := ([(.st [(.int .i64 1), (.int .i64 1), (.int .i64 0), (.int .i64 (9 : Int)), (e_api_Resources r2.1)]), (.st [(.int .i64 (2 : Int)), (.int .i64 1), (.int .i64 0), (.int .i64 (9 : Int)), (e_api_Resources r4.1)])] : List D)) (by rfl) (by rfl) (by kernel_rfl) (by simp) (L rfl)) rfl (c (OpJ.assign (L rfl) (q 31)) rfl cn)))))) ?_
 apply AWp.seq
 obtain ⟨r5, hr5, h⟩ := bindS h
 obtain ⟨r6, hr6, h⟩ := bindS h
 refine AWp.region (oc (mv hN (ot 6 (qe_api_Cert_6 ([(api_Cert.mk (1 : Int) (1 : Int) (0 : Int) (9 : Int) r2.1), (api_Cert.mk (2 : Int) (1 : Int) (0 : Int) (9 : Int) r4.1)] : List api_Cert))))
 (oc (mv hN (ot 1 (.func 26 [])))
 (oc (OpJ.callVal (args := [(i6 1), (i6 (16 : Int))]) (caps := []) hB fnOk26 [] (exchangepointlaw22_awake_1_ac (1 : Int) (16 : Int) r5 hr5) (by kernel_rfl) (L rfl) (by kernel_rfl) (by kernel_rfl) (OpdL.cons (Opd.int .i64 (1)) (OpdL.cons (Opd.int .i64 (16)) OpdL.nil)))
 (oc (OpJ.coe (v := (.st [(.d (e_api_Prefix r5)), (i6 (16 : Int)), (i6 (7 : Int))])) (y := (.st [(e_api_Prefix r5), (.int .i64 (16 : Int)), (.int .i64 (7 : Int))])) (Co.st (CoL.cons (Co.d _) (CoL.cons (Co.d _) (CoL.cons (Co.d _) CoL.nil)))) rfl (OpJ.build (places := [(0, 4), (4, 1), (5, 1)]) ⟨underlying46, fun w => by kernel_rfl⟩ tyZS46 (Opds.cons (ot 35 (.d (e_api_Prefix r5))) (Opds.cons (Opd.int .i64 (16)) (Opds.cons (Opd.int .i64 (7)) Opds.nil))) (by kernel_rfl) (r := (.st [(.d (e_api_Prefix r5)), (i6 (16 : Int)), (i6 (7 : Int))])) (by rfl) (L rfl)))
 (oc (OpJ.buildSlice underlying38 tyS46 tyZD46 (by rfl) (by decide) (by decide) (Opds.cons (ot 36 (.d (.st [(e_api_Prefix r5), (.int .i64 (16 : Int)), (.int .i64 (7 : Int))]))) Opds.nil) (by kernel_rfl) (es := ([(.st [(e_api_Prefix r5), (.int .i64 (16 : Int)), (.int .i64 (7 : Int))])] : List D)) (by rfl) (by rfl) (by kernel_rfl) (by simp) (L rfl))
 (oc (OpJ.coe (v := (.st [(i6 (2 : Int)), (i6 (7 : Int)), (i6 0), (i6 (9 : Int)), (qe_api_Object_6 ([(api_Object.mk r5 (16 : Int) (7 : Int))] : List api_Object))])) (y := (.st [(.int .i64 (2 : Int)), (.int .i64 (7 : Int)), (.int .i64 0), (.int .i64 (9 : Int)), (.list 6 (([(api_Object.mk r5 (16 : Int) (7 : Int))] : List api_Object).map e_api_Object))])) (Co.st (CoL.cons (Co.d _) (CoL.cons (Co.d _) (CoL.cons (Co.d _) (CoL.cons (Co.d _) (CoL.cons (Co.d _) CoL.nil)))))) rfl (OpJ.build (places := [(0, 1), (1, 1), (2, 1), (3, 1), (4, 1)]) ⟨underlying75, fun w => by kernel_rfl⟩ tyZS75 (Opds.cons (Opd.int .i64 (2)) (Opds.cons (Opd.int .i64 (7)) (Opds.cons (Opd.int .i64 (9)) (Opds.cons (ot 37 (qe_api_Object_6 ([(api_Object.mk r5 (16 : Int) (7 : Int))] : List api_Object))) Opds.nil)))) (by kernel_rfl) (r := (.st [(i6 (2 : Int)), (i6 (7 : Int)), (i6 0), (i6 (9 : Int)), (qe_api_Object_6 ([(api_Object.mk r5 (16 : Int) (7 : Int))] : List api_Object))])) (by rfl) (L rfl)))
 (oc (OpJ.buildSlice underlying76 tyS75 tyZD75 (by rfl) (by decide) (by decide) (Opds.cons (ot 38 (.d (.st [(.int .i64 (2 : Int)), (.int .i64 (7 : Int)), (.int .i64 0), (.int .i64 (9 : Int)), (.list 6 (([(api_Object.mk r5 (16 : Int) (7 : Int))] : List api_Object).map e_api_Object))]))) Opds.nil) (by kernel_rfl) (es := ([(.st [(.int .i64 (2 : Int)), (.int .i64 (7 : Int)), (.int .i64 0), (.int .i64 (9 : Int)), (.list 6 (([(api_Object.mk r5 (16 : Int) (7 : Int))] : List api_Object).map e_api_Object))])] : List D)) (by rfl) (by rfl) (by kernel_rfl) (by simp) (L rfl))
 (oc (OpJ.buildSlice underlying22 tyS3 tyZD3 (by rfl) (by decide) (by decide) (Opds.cons (Opd.int .i64 (1)) Opds.nil) (by kernel_rfl) (es := ([(.int .i64 1)] : List D)) (by rfl) (by rfl) (by kernel_rfl) (by simp) (L rfl))
 (oc (OpJ.callFn hB fnOk27 (origin_Payloads_ac ([(api_Cert.mk (1 : Int) (1 : Int) (0 : Int) (9 : Int) r2.1), (api_Cert.mk (2 : Int) (1 : Int) (0 : Int) (9 : Int) r4.1)] : List api_Cert) ([(api_Signed.mk (2 : Int) (7 : Int) (0 : Int) (9 : Int) ([(api_Object.mk r5 (16 : Int) (7 : Int))] : List api_Object))] : List api_Signed) ([(1 : Int)] : List Int) (5 : Int) r6 hr6) [(500, 500), (501, 501)] (by kernel_rfl) (L rfl) (by kernel_rfl) (OpdL.cons (ot 33 (qe_api_Cert_6 ([(api_Cert.mk (1 : Int) (1 : Int) (0 : Int) (9 : Int) r2.1), (api_Cert.mk (2 : Int) (1 : Int) (0 : Int) (9 : Int) r4.1)] : List api_Cert))) (OpdL.cons (ot 39 (qe_api_Signed_5 ([(api_Signed.mk (2 : Int) (7 : Int) (0 : Int) (9 : Int) ([(api_Object.mk r5 (16 : Int) (7 : Int))] : List api_Object))] : List api_Signed))) (OpdL.cons (ot 40 (qI_1 ([(1 : Int)] : List Int))) (OpdL.cons (Opd.int .i64 (5)) OpdL.nil)))))
 (oc (mv hN (ot 41 (.tup [(qe_api_Object_6 r6.1), (i6 r6.2)])))
 (oc (OpJ.extract (v := (qe_api_Object_6 r6.1)) (by rfl) rfl (L rfl) (ot 32 (.tup [(qe_api_Object_6 r6.1), (i6 r6.2)])))
 (oc (OpJ.extract (v := (i6 r6.2)) (by rfl) rfl (L rfl) (ot 32 (.tup [(qe_api_Object_6 r6.1), (i6 r6.2)])))
 (oc (OpJ.assign (L rfl) (ot 42 (qe_api_Object_6 r6.1)))
 (oc (OpJ.assign (L rfl) (ot 43 (i6 r6.2)))
 (OpJs.nil))))))))))))))) (by rfl) (by rfl) ?_
 apply seqQ_n
 refine AWp.ghost (mp [] [(1, (.func 26 [])), (7, (qe_api_Object_6 r6.1)), (8, (i6 r6.2))] [(500, some (.know (globF 0 [82, 122, 123]))), (501, some (.know (globF 1 [77, 124, 125])))] hB) ?_
 obtain ⟨r7, hr7, h⟩ := bindS h
 obtain ⟨r8, hr8, h⟩ := bindS h
 refine sr (c (mv hN (q 7)) rfl (c (mv hN (q 1)) rfl (cg (OpJ.callVal (args := [(i6 1), (i6 (16 : Int))]) (caps := []) hB fnOk26 [] (exchangepointlaw22_awake_1_ac (1 : Int) (16 : Int) r7 hr7) (by kernel_rfl) (L rfl) (by kernel_rfl) (by kernel_rfl) (OpdL.cons (Opd.int .i64 (1)) (OpdL.cons (Opd.int .i64 (16)) OpdL.nil))) rfl (cg (cf hB fnOk15 (origin_State_ac r6.1 r7 (7 : Int) r8 hr8) (L rfl) (OpdL.cons (q 45) (OpdL.cons (q 47) (OpdL.cons (Opd.int .i64 (7)) OpdL.nil)))) rfl (c (mv hN (q 48)) rfl (c (OpJ.extract (by rfl) rfl (L rfl) (q 44)) rfl (c (OpJ.extract (by rfl) rfl (L rfl) (q 44)) rfl (c (OpJ.assign (L rfl) (q 49)) rfl (c (OpJ.assign (L rfl) (q 50)) rfl cn))))))))) ?_
 obtain ⟨r9, hr9, h⟩ := bindS h
 obtain ⟨r10, hr10, h⟩ := bindS h
 refine sr (c (mv hN (q 7)) rfl (c (mv hN (q 1)) rfl (cg (OpJ.callVal (args := [(i6 1), (i6 (16 : Int))]) (caps := []) hB fnOk26 [] (exchangepointlaw22_awake_1_ac (1 : Int) (16 : Int) r9 hr9) (by kernel_rfl) (L rfl) (by kernel_rfl) (by kernel_rfl) (OpdL.cons (Opd.int .i64 (1)) (OpdL.cons (Opd.int .i64 (16)) OpdL.nil))) rfl (cg (cf hB fnOk15 (origin_State_ac r6.1 r9 (8 : Int) r10 hr10) (L rfl) (OpdL.cons (q 52) (OpdL.cons (q 54) (OpdL.cons (Opd.int .i64 (8)) OpdL.nil)))) rfl (c (mv hN (q 55)) rfl (c (OpJ.extract (by rfl) rfl (L rfl) (q 51)) rfl (c (OpJ.extract (by rfl) rfl (L rfl) (q 51)) rfl (c (OpJ.assign (L rfl) (q 56)) rfl (c (OpJ.assign (L rfl) (q 57)) rfl cn))))))))) ?_
 refine sr (c (mv hN (q 8)) rfl (c (OpJ.eqlI (L rfl) (q 58) (Opd.int .i64 (0))) rfl (c (mv hN (q 59)) rfl (c (oq hN 60 (mv hN (q 7)) (OptL.keep (by rfl) OptL.nil) (GuardV.plain _)) rfl (c (oq hN 60 (OpJ.val (v' := (i6 (r6.1.length : Int))) (by simp) (OpJ.lenD underlying38 (L rfl) (q 61))) (OptL.opt OptL.nil) (GuardV.plain _)) rfl (c (oq hN 60 (OpJ.eqlI (L rfl) (q 62) (Opd.int .i64 (1))) (OptL.opt OptL.nil) (GuardV.plain _)) rfl (c (OpJ.pickAnd rfl (L rfl) (q 60) (q 63)) rfl (c (mv hN (q 64)) rfl (c (oq hN 65 (mv hN (q 9)) (OptL.keep (by rfl) OptL.nil) (GuardV.plain _)) rfl (c (oq hN 65 (OpJ.eqlI (L rfl) (q 66) (Opd.int .i64 (1))) (OptL.opt OptL.nil) (GuardV.plain _)) rfl (c (OpJ.pickAnd rfl (L rfl) (q 65) (q 67)) rfl (c (mv hN (q 68)) rfl (c (oq hN 69 (mv hN (q 11)) (OptL.keep (by rfl) OptL.nil) (GuardV.plain _)) rfl (c (oq hN 69 (OpJ.eqlI (L rfl) (q 70) (Opd.int .i64 (2))) (OptL.opt OptL.nil) (GuardV.plain _)) rfl (c (OpJ.pickAnd rfl (L rfl) (q 69) (q 71)) rfl (c (OpJ.assign (L rfl) (q 72)) rfl cn)))))))))))))))) ?_
 apply AWp.ret
 obtain rfl := Option.some.inj h
 exact ⟨.inl rfl, _, _, (kp [(0, _)] [(500, some _), (501, some _)] hB rfl rfl (by rfl)), [(bo ((((r6.2 == (0 : Int)) && ((r6.1.length : Int) == (1 : Int))) && (r8.1 == (1 : Int))) && (r10.1 == (2 : Int))))], (Res.tmp (by rfl) (by rfl) Res.nil), rfl, by rfl, by rfl, by rfl⟩
noncomputable def exchangepointmake_Deck_Object (a0 : exchangepointmake_Deck) : Option (api_Object × exchangepointmake_Deck) :=
 (exchangepointmake_Deck_Prefix a0).bind fun r1 =>
 jn (fun m3 : Int =>
 (exchangepointmake_Deck_Next r1.2 (4 : Int)).bind fun r5 =>
 (exchangepointmake_Deck_Next r5.2 (4 : Int)).bind fun r6 =>
 (exchangepointmake_Deck_Next r6.2 (5 : Int)).bind fun r7 =>
 some ((api_Object.mk r1.1 (minI m3 (w64 (r1.1.fLen + (w64 (r5.1 * r6.1))))) (w64 ((1 : Int) + r7.1))), r7.2)) (fun j4 =>
 (if r1.1.fAddr.fV6 = true then
 j4 (128 : Int)
 else
 j4 (32 : Int)))
theorem exchangepointmake_Deck_Object_ac (a0 : exchangepointmake_Deck) (r : api_Object × exchangepointmake_Deck) (h : exchangepointmake_Deck_Object a0 = some r) : AC Tryd.prog 12 [(pt 0)] [(0, (.box 60 (.d (e_exchangepointmake_Deck a0))))] (.d (e_api_Object r.1)) [(0, bd 60 (e_exchangepointmake_Deck r.2))] := by
 refine AC.of_code2 Tryd.func12 rfl rfl (Nat.le_of_ble_eq_true (by rfl)) fun B hB hN => ?_
 have L {d : Nat} (h : Nat.blt d Tryd.f12.ntmps = true) : d < B.N := ltN hN h
 delta exchangepointmake_Deck_Object at h
 refine sr (cg (OpJ.alloc hB tyZ46 (nm := 1002) (by decide) (L rfl)) rfl cn) ?_
 apply AWp.seq
 obtain ⟨r1, hr1, h⟩ := bindS h
 refine AWp.region (oc (mv hN (ot 0 (pt 0)))
 (oc (OpJ.callFn hB fnOk13 (exchangepointmake_Deck_Prefix_ac a0 r1 hr1) [(0, 0)] (by kernel_rfl) (L rfl) (by kernel_rfl) (OpdL.cons (ot 5 (pt 0)) OpdL.nil))
 (oc (OpJ.alloc hB tyZ44 (nm := 1003) (by decide) (L rfl))
 (oc (OpJ.storeB (bt := 44) (c := (.d (.st [(.st [(.bool false), (.int .u64 0), (.int .u64 0)]), (.int .i64 0)]))) (v := (.d (e_api_Prefix r1.1))) (c' := (.d (e_api_Prefix r1.1))) tyS44 (SetAt.here _ _) (by rfl) (by rfl) (by simp) rfl (ot 3 (pt 1003)) (ot 6 (.d (e_api_Prefix r1.1))))
 (OpJs.nil))))) (by rfl) (by rfl) ?_
 apply seqQ_n
 refine AWp.ghost (mp [] [(0, (pt 0)), (2, (pt 1002)), (3, (pt 1003))] [(0, bd 60 (e_exchangepointmake_Deck r1.2)), (1002, bd 46 (.st [(.st [(.st [(.bool false), (.int .u64 0), (.int .u64 0)]), (.int .i64 0)]), (.int .i64 0), (.int .i64 0)])), (1003, bd 44 (e_api_Prefix r1.1))] hB) ?_
 refine sr (c (OpJ.assign (L rfl) (Opd.int .i64 (32))) rfl cn) ?_
 apply AWp.seq
 refine sr (c (fo 1003 0 [0] hN underlying44 0 tyS42 (q 3)) rfl (c (fo 1003 0 [0, 0] hN underlying42 0 tyS4 (q 7)) rfl (c (lb hN 44 _ _ tyS4 (At.dst1 (by rfl) (by rfl) (ad _) (by first | rfl | omega)) (q 8)) rfl cn))) ?_
 refine gh [(0, _), (2, _), (3, _), (4, _), (9, _)] [(0, some _), (1002, some _), (1003, some _)] hB rfl rfl (by rfl) ?_
 refine AWp.cut h (fun m3 : Int => ([(0, (pt 0)), (2, (pt 1002)), (3, (pt 1003)), (4, (i6 m3))] : EL)) (fun m3 : Int => ([(0, bd 60 (e_exchangepointmake_Deck r1.2)), (1002, bd 46 (.st [(.st [(.st [(.bool false), (.int .u64 0), (.int .u64 0)]), (.int .i64 0)]), (.int .i64 0), (.int .i64 0)])), (1003, bd 44 (e_api_Prefix r1.1))] : OL)) (fun m3 h E' O' hmat => ?_) (fun j4 hjj4 h => ?_)
 ·apply seqQ_n
  refine AWp.ghost hmat ?_
  apply AWp.seq
  obtain ⟨r5, hr5, h⟩ := bindS h
  obtain ⟨r6, hr6, h⟩ := bindS h
  obtain ⟨r7, hr7, h⟩ := bindS h
  refine AWp.draws (by kernel_rfl) (oc (lb hN 44 (.d (e_api_Prefix r1.1)) (.d (e_api_Prefix r1.1)) tyS44 (At.here _) (ot 3 (pt 1003)))
   (oc (mv hN (ot 4 (i6 m3)))
   (oc (ov (.ptr 1003 3 [1]) (fp hN underlying44 3 tyS3 (.box 44 (.d (e_api_Prefix r1.1))) (ot 3 (pt 1003))))
   (oc (lb hN 44 (.d (e_api_Prefix r1.1)) (i6 r1.1.fLen) tyS3 (ad (.int .i64 r1.1.fLen)) (ot 12 (.ptr 1003 3 [1])))
   (oc (mv hN (ot 0 (pt 0)))
   (oc (OpJ.callFn hB fnOk11 (exchangepointmake_Deck_Next_ac r1.2 (4 : Int) r5 hr5) [(0, 0)] (by kernel_rfl) (L rfl) (by kernel_rfl) (OpdL.cons (ot 14 (pt 0)) (OpdL.cons (Opd.int .i64 (4)) OpdL.nil)))
   (oc (mv hN (ot 0 (pt 0)))
   (oc (OpJ.callFn hB fnOk11 (exchangepointmake_Deck_Next_ac r5.2 (4 : Int) r6 hr6) [(0, 0)] (by kernel_rfl) (L rfl) (by kernel_rfl) (OpdL.cons (ot 16 (pt 0)) (OpdL.cons (Opd.int .i64 (4)) OpdL.nil)))
   (oc (mul6 (L rfl) (ot 15 (i6 r5.1)) (ot 17 (i6 r6.1)))
   (oc (add6 (L rfl) (ot 13 (i6 r1.1.fLen)) (ot 18 (i6 (w64 (r5.1 * r6.1)))))
   (oc (OpJ.min (L rfl) (ot 11 (i6 m3)) (ot 19 (i6 (w64 (r1.1.fLen + (w64 (r5.1 * r6.1)))))))
   (oc (mv hN (ot 0 (pt 0)))
   (oc (OpJ.callFn hB fnOk11 (exchangepointmake_Deck_Next_ac r6.2 (5 : Int) r7 hr7) [(0, 0)] (by kernel_rfl) (L rfl) (by kernel_rfl) (OpdL.cons (ot 21 (pt 0)) (OpdL.cons (Opd.int .i64 (5)) OpdL.nil)))
   (oc (add6 (L rfl) (Opd.int .i64 (1)) (ot 22 (i6 r7.1)))
   (oc (OpJ.coe (v := (.st [(.d (e_api_Prefix r1.1)), (i6 (minI m3 (w64 (r1.1.fLen + (w64 (r5.1 * r6.1)))))), (i6 (w64 ((1 : Int) + r7.1)))])) (y := (.st [(e_api_Prefix r1.1), (.int .i64 (minI m3 (w64 (r1.1.fLen + (w64 (r5.1 * r6.1)))))), (.int .i64 (w64 ((1 : Int) + r7.1)))])) (Co.st (CoL.cons (Co.d _) (CoL.cons (Co.d _) (CoL.cons (Co.d _) CoL.nil)))) rfl (OpJ.build (places := [(0, 4), (4, 1), (5, 1)]) ⟨underlying46, fun w => by kernel_rfl⟩ tyZS46 (Opds.cons (ot 10 (.d (e_api_Prefix r1.1))) (Opds.cons (ot 20 (i6 (minI m3 (w64 (r1.1.fLen + (w64 (r5.1 * r6.1))))))) (Opds.cons (ot 23 (i6 (w64 ((1 : Int) + r7.1)))) Opds.nil))) (by kernel_rfl) (r := (.st [(.d (e_api_Prefix r1.1)), (i6 (minI m3 (w64 (r1.1.fLen + (w64 (r5.1 * r6.1)))))), (i6 (w64 ((1 : Int) + r7.1)))])) (by rfl) (L rfl)))
   (oc (OpJ.storeB (bt := 46) (c := (.d (.st [(.st [(.st [(.bool false), (.int .u64 0), (.int .u64 0)]), (.int .i64 0)]), (.int .i64 0), (.int .i64 0)]))) (v := (.d (.st [(e_api_Prefix r1.1), (.int .i64 (minI m3 (w64 (r1.1.fLen + (w64 (r5.1 * r6.1)))))), (.int .i64 (w64 ((1 : Int) + r7.1)))]))) (c' := (.d (.st [(e_api_Prefix r1.1), (.int .i64 (minI m3 (w64 (r1.1.fLen + (w64 (r5.1 * r6.1)))))), (.int .i64 (w64 ((1 : Int) + r7.1)))]))) tyS46 (SetAt.here _ _) (by rfl) (by rfl) (by simp) rfl (ot 2 (pt 1002)) (ot 24 (.d (.st [(e_api_Prefix r1.1), (.int .i64 (minI m3 (w64 (r1.1.fLen + (w64 (r5.1 * r6.1)))))), (.int .i64 (w64 ((1 : Int) + r7.1)))]))))
   (OpJs.nil))))))))))))))))) (by kernel_rfl) (by rfl) (by rfl) ?_
  apply seqQ_n
  refine AWp.ghost (mp [] [(2, (pt 1002))] [(0, bd 60 (e_exchangepointmake_Deck r7.2)), (1002, some (.box 46 (.d (.st [(e_api_Prefix r1.1), (.int .i64 (minI m3 (w64 (r1.1.fLen + (w64 (r5.1 * r6.1)))))), (.int .i64 (w64 ((1 : Int) + r7.1)))]))))] hB) ?_
  apply AWp.ret
  obtain rfl := Option.some.inj h
  exact ⟨.inl rfl, _, _, (kp [(2, _)] [(0, some _), (1002, some _)] hB rfl rfl (by rfl)), [(.d (.st [(e_api_Prefix r1.1), (.int .i64 (minI m3 (w64 (r1.1.fLen + (w64 (r5.1 * r6.1)))))), (.int .i64 (w64 ((1 : Int) + r7.1)))]))], (Res.cell (c := (.d (.st [(e_api_Prefix r1.1), (.int .i64 (minI m3 (w64 (r1.1.fLen + (w64 (r5.1 * r6.1)))))), (.int .i64 (w64 ((1 : Int) + r7.1)))]))) (by rfl) (by rfl) tyS46 (by rfl) (by rfl) (by rfl) Res.nil), rfl, by rfl, by rfl, by rfl⟩
 ·refine AWp.cond rfl (fun hg8 => ?_) (fun hg8 => ?_)
  ·replace h := ite_t hg8 h
   refine rg (c (OpJ.assign (L rfl) (Opd.int .i64 (128))) rfl cn) ?_
   exact hjj4 _ h _ _ (mp [] _ _ hB)
  ·replace h := ite_f hg8 h
   apply AWp.skip
   exact hjj4 _ h _ _ (mp [] _ _ hB)
noncomputable def exchangepointref02_Contains (a0 : api_Prefix) (a1 : api_Addr) : Option (Bool) :=
 (exchangepointref02_Make a1 a0.fLen).bind fun r1 =>
 some ((r1.2 == (0 : Int)) && (((r1.1.fAddr.fV6 == a0.fAddr.fV6) && ((r1.1.fAddr.fHi == a0.fAddr.fHi) && ((r1.1.fAddr.fLo == a0.fAddr.fLo) && true))) && ((r1.1.fLen == a0.fLen) && true)))
theorem exchangepointref02_Contains_ac (a0 : api_Prefix) (a1 : api_Addr) (r : Bool) (h : exchangepointref02_Contains a0 a1 = some r) : AC Tryd.prog 52 [(.d (e_api_Prefix a0)), (.d (e_api_Addr a1))] [] (.d (.bool r)) [] := by
 refine AC.of_code2 Tryd.func52 rfl rfl (Nat.le_of_ble_eq_true (by rfl)) fun B hB hN => ?_
 delta exchangepointref02_Contains at h
 refine sr (cg (OpJ.box hB (nm := 1002) (by decide) (by simp) rfl (ltN hN rfl) (q 0)) rfl (cg (OpJ.box hB (nm := 1003) (by decide) (by simp) rfl (ltN hN rfl) (q 1)) rfl (c (OpJ.assign (ltN hN rfl) (Opd.bool false)) rfl cn))) ?_
 obtain ⟨r1, hr1, h⟩ := bindS h
 refine sr (c (lb hN 42 _ _ tyS42 (At.here _) (q 3)) rfl (c (fo 1002 3 [1] hN underlying44 3 tyS3 (q 2)) rfl (c (la hN 44 tyS3 (q 9)) rfl (cg (OpJ.callFn hB fnOk14 (exchangepointref02_Make_ac a1 a0.fLen r1 hr1) [] (by kernel_rfl) (ltN hN rfl) (by kernel_rfl) (OpdL.cons (q 8) (OpdL.cons (q 10) OpdL.nil))) rfl (c (mv hN (q 11)) rfl (c (OpJ.extract (by rfl) rfl (ltN hN rfl) (q 7)) rfl (c (OpJ.extract (by rfl) rfl (ltN hN rfl) (q 7)) rfl (cg (OpJ.alloc hB tyZ44 (nm := 1005) (by decide) (ltN hN rfl)) rfl (cg (sB tyS44 (q 5) (q 12)) rfl (c (OpJ.assign (ltN hN rfl) (q 13)) rfl cn)))))))))) ?_
 refine sr (c (mv hN (q 6)) rfl (c (OpJ.eqlI (ltN hN rfl) (q 14) (Opd.int .i64 (0))) rfl (c (mv hN (q 15)) rfl (c (oq hN 16 (lb hN 44 _ _ tyS44 (At.here _) (q 5)) (OptL.keep (by rfl) OptL.nil) (GuardV.plain _)) rfl (c (oq hN 16 (lb hN 44 _ _ tyS44 (At.here _) (q 2)) (OptL.keep (by rfl) OptL.nil) (GuardV.plain _)) rfl (c (oq hN 16 (OpJ.eqlD (h := 3) (FitE.st underlying44 rfl held44 (FitF.cons (x := (e_api_Addr r1.1.fAddr)) (y := (e_api_Addr a0.fAddr)) (by decide) rfl tyS42 ⟨rfl, rfl⟩ ⟨rfl, rfl⟩ (FitE.st underlying42 rfl held42 (FitF.cons (x := (.bool r1.1.fAddr.fV6)) (y := (.bool a0.fAddr.fV6)) (by decide) rfl tyS4 ⟨rfl, rfl⟩ ⟨rfl, rfl⟩ (FitE.bool (h := 0) r1.1.fAddr.fV6 a0.fAddr.fV6 underlying4) (FitF.cons (x := (.int .u64 r1.1.fAddr.fHi)) (y := (.int .u64 a0.fAddr.fHi)) (by decide) rfl tyS40 ⟨rfl, rfl⟩ ⟨rfl, rfl⟩ (FitE.int (h := 0) r1.1.fAddr.fHi a0.fAddr.fHi underlying40) (FitF.cons (x := (.int .u64 r1.1.fAddr.fLo)) (y := (.int .u64 a0.fAddr.fLo)) (by decide) rfl tyS40 ⟨rfl, rfl⟩ ⟨rfl, rfl⟩ (FitE.int (h := 0) r1.1.fAddr.fLo a0.fAddr.fLo underlying40) FitF.nil)))) (FitF.cons (x := (.int .i64 r1.1.fLen)) (y := (.int .i64 a0.fLen)) (by decide) rfl tyS3 ⟨rfl, rfl⟩ ⟨rfl, rfl⟩ (FitE.int (h := 1) r1.1.fLen a0.fLen underlying3) FitF.nil))) eqg44 ⟨rfl, rfl⟩ (by rfl) (ltN hN rfl) (q 17) (q 18)) (OptL.opt (OptL.opt OptL.nil)) (GuardV.plain _)) rfl (c (OpJ.pickAnd rfl (ltN hN rfl) (q 16) (q 19)) rfl (c (OpJ.assign (ltN hN rfl) (q 20)) rfl cn)))))))) ?_
 apply AWp.ret
 obtain rfl := Option.some.inj h
 exact ⟨.inl rfl, _, _, (kp [(4, _)] [] hB rfl rfl (by rfl)), [(bo ((r1.2 == (0 : Int)) && (((r1.1.fAddr.fV6 == a0.fAddr.fV6) && ((r1.1.fAddr.fHi == a0.fAddr.fHi) && ((r1.1.fAddr.fLo == a0.fAddr.fLo) && true))) && ((r1.1.fLen == a0.fLen) && true))))], (Res.tmp (by rfl) (by rfl) Res.nil), rfl, by rfl, by rfl, by rfl⟩
noncomputable def exchangepointref02_Covers (a0 : api_Prefix) (a1 : api_Prefix) : Option (Bool) :=
 jn (fun m3 : Bool =>
 some m3) (fun j4 =>
 (if (decide (a0.fLen ≤ a1.fLen)) = true then
 (exchangepointref02_Contains a0 a1.fAddr).bind fun r6 =>
 j4 r6
 else
 j4 false))
theorem exchangepointref02_Covers_ac (a0 : api_Prefix) (a1 : api_Prefix) (r : Bool) (h : exchangepointref02_Covers a0 a1 = some r) : AC Tryd.prog 34 [(.d (e_api_Prefix a0)), (.d (e_api_Prefix a1))] [] (.d (.bool r)) [] := by
 refine AC.of_code2 Tryd.func34 rfl rfl (Nat.le_of_ble_eq_true (by rfl)) fun B hB hN => ?_
 have L {d : Nat} (h : Nat.blt d Tryd.f34.ntmps = true) : d < B.N := ltN hN h
 delta exchangepointref02_Covers at h
 refine sr (cg (OpJ.box hB (nm := 1002) (by decide) (by simp) rfl (L rfl) (q 0)) rfl (cg (OpJ.box hB (nm := 1003) (by decide) (by simp) rfl (L rfl) (q 1)) rfl (c (OpJ.assign (L rfl) (Opd.bool false)) rfl cn))) ?_
 apply AWp.seq
 refine AWp.cut h (fun m3 : Bool => ([(4, (bo m3))] : EL)) (fun m3 : Bool => ([] : OL)) (fun m3 h E' O' hmat => ?_) (fun j4 hjj4 h => ?_)
 ·apply seqQ_n
  refine AWp.ghost hmat ?_
  apply AWp.ret
  obtain rfl := Option.some.inj h
  exact ⟨.inl rfl, _, _, (kp [(4, _)] [] hB rfl rfl (by rfl)), [(bo m3)], (Res.tmp (by rfl) (by rfl) Res.nil), rfl, by rfl, by rfl, by rfl⟩
 ·rcases Bool.eq_false_or_eq_true (decide (a0.fLen ≤ a1.fLen)) with hg5 | hg5
  ·replace h := ite_t hg5 h
   obtain ⟨r6, hr6, h⟩ := bindS h
   refine rg (c (fo 1003 3 [1] hN underlying44 3 tyS3 (q 3)) rfl (c (la hN 44 tyS3 (q 5)) rfl (c (fo 1002 3 [1] hN underlying44 3 tyS3 (q 2)) rfl (c (la hN 44 tyS3 (q 7)) rfl (c (OpJ.geq (L rfl) (q 6) (q 8)) rfl (c (OpJ.val (v' := .d (.bool true)) (by rw [hg5] <;> rfl) (mv hN (q 9))) rfl (c (gd 10 (lb hN 44 _ _ tyS44 (At.here _) (q 2))) rfl (c (gd 10 (fo 1003 0 [0] hN underlying44 0 tyS42 (q 3))) rfl (c (gd 10 (la hN 44 tyS42 (q 12))) rfl (cg (gd 10 (cf hB fnOk52 (exchangepointref02_Contains_ac a0 a1.fAddr r6 hr6) (L rfl) (OpdL.cons (q 11) (OpdL.cons (q 13) OpdL.nil)))) rfl (c (OpJ.pickT (L rfl) (q 10) (q 14)) rfl (c (OpJ.assign (L rfl) (q 15)) rfl cn)))))))))))) ?_
   exact hjj4 _ h _ _ (mp [] _ _ hB)
  ·replace h := ite_f hg5 h
   refine rg (c (fo 1003 3 [1] hN underlying44 3 tyS3 (q 3)) rfl (c (la hN 44 tyS3 (q 5)) rfl (c (fo 1002 3 [1] hN underlying44 3 tyS3 (q 2)) rfl (c (la hN 44 tyS3 (q 7)) rfl (c (OpJ.geq (L rfl) (q 6) (q 8)) rfl (c (OpJ.val (v' := .d (.bool false)) (by rw [hg5] <;> rfl) (mv hN (q 9))) rfl (cg (sU 10 (L rfl)) rfl (cg (sU 10 (L rfl)) rfl (cg (sU 10 (L rfl)) rfl (cg (sU 10 (L rfl)) rfl (c (OpJ.pickF (L rfl) (q 10) (Opd.bool false)) rfl (c (OpJ.assign (L rfl) (q 15)) rfl cn)))))))))))) ?_
   exact hjj4 _ h _ _ (mp [] _ _ hB)
noncomputable def exchangepointref22_State_L0 (a0 : (List api_Object)) (a1 : api_Prefix) (a2 : Int) (s1 : Int × Int × (List api_Object)) : Option (((Int × (List api_Object))) ⊕ (Int × Int × (List api_Object))) :=
 (if (decide (s1.2.1 < (a0.length : Int))) = true then
 jn (fun m55 : Int × (List api_Object) =>
 some (.inr (m55.1, (w64 (s1.2.1 + (1 : Int))), m55.2))) (fun j56 =>
 (idx a0 s1.2.1).bind fun x57 =>
 (exchangepointref02_Covers x57.fPrefix a1).bind fun r58 =>
 (if (!r58) = true then
 j56 (s1.1, s1.2.2)
 else
 chk (decide ((s1.2.2 ++ ([x57] : List api_Object)).length ≤ LIM)) <|
 jn (fun m62 : Int =>
 (if (((x57.fASN == a2) && (a2 != (0 : Int))) && (decide (a1.fLen ≤ x57.fMax))) = true then
 j56 ((1 : Int), (s1.2.2 ++ ([x57] : List api_Object)))
 else
 j56 (m62, (s1.2.2 ++ ([x57] : List api_Object))))) (fun j63 =>
 (if (s1.1 == (0 : Int)) = true then
 j63 (2 : Int)
 else
 j63 s1.1))))
 else
 some (.inl (s1.1, s1.2.2)))
noncomputable def exchangepointref22_State (a0 : (List api_Object)) (a1 : api_Prefix) (a2 : Int) : Option (Int × (List api_Object)) :=
 (loop (exchangepointref22_State_L0 a0 a1 a2) ((0 : Int), (0 : Int), ([] : List api_Object))).bind fun p44 =>
 some (p44.1, p44.2)
theorem exchangepointref22_State_ac (a0 : (List api_Object)) (a1 : api_Prefix) (a2 : Int) (r : Int × (List api_Object)) (h : exchangepointref22_State a0 a1 a2 = some r) : AC Tryd.prog 16 [(.d (.list 6 (a0.map e_api_Object))), (.d (e_api_Prefix a1)), (.d (.int .i64 a2))] [] (.tup [(.d (.int .i64 r.1)), (.d (.list 6 (r.2.map e_api_Object)))]) [] := by
 refine AC.of_code2 Tryd.func16 rfl rfl (Nat.le_of_ble_eq_true (by rfl)) fun B hB hN => ?_
 have L {d : Nat} (h : Nat.blt d Tryd.f16.ntmps = true) : d < B.N := ltN hN h
 delta exchangepointref22_State at h
 refine sr (cg (OpJ.box hB (nm := 1004) (by decide) (by simp) rfl (L rfl) (q 1)) rfl (c (OpJ.assign (L rfl) (Opd.int .i64 (0))) rfl (c (OpJ.assign (L rfl) Opd.nils) rfl cn))) ?_
 refine sr (c (OpJ.assign (L rfl) (Opd.int .i64 (0))) rfl cn) ?_
 refine sr (c (OpJ.assign (L rfl) Opd.nils) rfl cn) ?_
 apply AWp.seq
 refine sr (c (mv hN (q 0)) rfl (c (OpJ.val (v' := (i6 (a0.length : Int))) (by simp) (OpJ.lenD underlying38 (L rfl) (q 12))) rfl (c (mv hN (Opd.int .i64 (0))) rfl cn))) ?_
 apply AWp.block
 obtain ⟨p44, hx67, h⟩ := bindS h
 refine lg (exchangepointref22_State_L0 a0 a1 a2) (fun s1 : Int × Int × (List api_Object) => ([(2, (i6 a2)), (4, (pt 1004)), (8, (i6 s1.1)), (9, (.sref 3009 6 0 s1.2.2.length)), (12, (qe_api_Object_6 a0)), (13, (i6 (a0.length : Int))), (14, (i6 s1.2.1))] : EL)) (fun s1 : Int × Int × (List api_Object) => ([(1004, bd 44 (e_api_Prefix a1)), (3009, some (we_api_Object_46_6 s1.2.2))] : OL)) (fun (p44 : (Int × (List api_Object))) e E' O' => e = .exit 0 ∧ Mat B E' O' ([(8, (i6 p44.1)), (9, (.sref 3009 6 0 p44.2.length))] : EL) ([(3009, some (we_api_Object_46_6 p44.2))] : OL)) hx67 (Mat.trans (Mat.beginP (n := 3009) (e := 46) (sz := 6) (Ts := [(9, (.sref 3009 6 0 0))]) (Bs := []) hB (by decide) (by rfl) (by decide) (TwT.cons (x := .nils) (by rfl) (Tw.leaf ⟨rfl, rfl⟩) TwT.nil) TwB.nil) (mp [] _ _ hB)) (fun s1 y h => ?_) (fun e E' O' hR => ?_)
 ·unfold exchangepointref22_State_L0 at h
  refine sr (c (OpJ.lss (L rfl) (q 14) (q 13)) rfl cn) ?_
  apply AWp.seq
  refine AWp.cond rfl (fun hg45 => ?_) (fun hg45 => ?_)
  ·replace h := ite_t hg45 h
   apply AWp.skip
   apply seqQ_n
   apply AWp.seq
   refine AWp.cut h (fun m55 : Int × (List api_Object) => ([(2, (i6 a2)), (4, (pt 1004)), (8, (i6 m55.1)), (9, (.sref 3009 6 0 m55.2.length)), (12, (qe_api_Object_6 a0)), (13, (i6 (a0.length : Int))), (14, (i6 s1.2.1))] : EL)) (fun m55 : Int × (List api_Object) => ([(1004, bd 44 (e_api_Prefix a1)), (3009, some (we_api_Object_46_6 m55.2))] : OL)) (fun m55 h E' O' hmat => ?_) (fun j56 hjj56 h => ?_)
   ·apply seqQ_n
    refine AWp.ghost hmat ?_
    refine rg (c (add6 (L rfl) (q 14) (Opd.int .i64 (1))) rfl (c (mv hN (q 44)) rfl cn)) ?_
    obtain rfl := Option.some.inj h
    exact ⟨rfl, (mp [] _ _ hB)⟩
   ·apply AWp.block
    obtain ⟨x57, hx57, h⟩ := bindS h
    refine sr (c (OpJ.indexD underlying38 tyS46 (idx_some hx57).1 (get_map e_api_Object (idx_some hx57).2) (L rfl) (q 12) (q 14)) rfl (c (OpJ.loadD tyS46 (by rfl) (by rfl) (L rfl) (q 16)) rfl (cg (OpJ.alloc hB tyZ46 (nm := 1011) (by decide) (L rfl)) rfl (cg (sB tyS46 (q 11) (q 17)) rfl cn)))) ?_
    apply AWp.seq
    obtain ⟨r58, hr58, h⟩ := bindS h
    refine sr (c (fo 1011 0 [0] hN underlying46 0 tyS44 (q 11)) rfl (c (la hN 46 tyS44 (q 18)) rfl (c (lb hN 44 _ _ tyS44 (At.here _) (q 4)) rfl (cg (cf hB fnOk34 (exchangepointref02_Covers_ac x57.fPrefix a1 r58 hr58) (L rfl) (OpdL.cons (q 19) (OpdL.cons (q 20) OpdL.nil))) rfl (c (OpJ.not (L rfl) (q 21)) rfl cn))))) ?_
    refine AWp.cond rfl (fun hg59 => ?_) (fun hg59 => ?_)
    ·replace h := ite_t hg59 h
     apply AWp.exit
     apply seqQ_e
     apply blkQ_hit
     exact hjj56 _ h _ _ (mp [] _ _ hB)
    ·replace h := ite_f hg59 h
     apply AWp.skip
     apply seqQ_n
     obtain ⟨hc60, h⟩ := chk_some h
     refine sr (c (mv hN (q 9)) rfl (c (lb hN 46 _ _ tyS46 (At.here _) (q 11)) rfl (c (OpJ.buildSlice underlying38 tyS46 tyZD46 (by rfl) (by decide) (by decide) (Opds.cons (q 24) Opds.nil) (by kernel_rfl) (es := ([(e_api_Object x57)] : List D)) (by rfl) (by rfl) (by kernel_rfl) (by simp) (L rfl)) rfl (cg (apd hB underlying38 tyE46 1026 e_api_Object s1.2.2 ([x57] : List api_Object) hc60 (L rfl) (q 23) (q 25)) rfl (c (OpJ.assign (L rfl) (q 26)) rfl cn))))) ?_
     apply AWp.seq
     refine sr (c (mv hN (q 8)) rfl (c (OpJ.eqlI (L rfl) (q 27) (Opd.int .i64 (0))) rfl cn)) ?_
     refine gh [(2, _), (4, _), (8, _), (9, _), (11, _), (12, _), (13, _), (14, _), (28, _)] [(1004, some _), (1011, some _), (1026, some _)] hB rfl rfl (by rfl) ?_
     refine AWp.cut h (fun m62 : Int => ([(2, (i6 a2)), (4, (pt 1004)), (8, (i6 m62)), (9, (.sref 1026 6 0 ((s1.2.2 ++ ([x57] : List api_Object)).length))), (11, (pt 1011)), (12, (qe_api_Object_6 a0)), (13, (i6 (a0.length : Int))), (14, (i6 s1.2.1))] : EL)) (fun m62 : Int => ([(1004, bd 44 (e_api_Prefix a1)), (1011, bd 46 (e_api_Object x57)), (1026, some (we_api_Object_46_6 (s1.2.2 ++ ([x57] : List api_Object))))] : OL)) (fun m62 h E' O' hmat => ?_) (fun j63 hjj63 h => ?_)
     ·apply seqQ_n
      refine AWp.ghost hmat ?_
      refine sr (c (fo 1011 5 [2] hN underlying46 5 tyS3 (q 11)) rfl (c (la hN 46 tyS3 (q 29)) rfl (c (mv hN (q 2)) rfl (c (OpJ.eqlI (L rfl) (q 30) (q 31)) rfl (c (mv hN (q 32)) rfl (c (oq hN 33 (mv hN (q 2)) (OptL.keep (by rfl) OptL.nil) (GuardV.plain _)) rfl (c (oq hN 33 (OpJ.neqI (L rfl) (q 34) (Opd.int .i64 (0))) (OptL.opt OptL.nil) (GuardV.plain _)) rfl (c (OpJ.pickAnd rfl (L rfl) (q 33) (q 35)) rfl (c (mv hN (q 36)) rfl (c (oq hN 37 (fo 1011 4 [1] hN underlying46 4 tyS3 (q 11)) (OptL.keep (by rfl) OptL.nil) (GuardV.plain _)) rfl (c (oq hN 37 (la hN 46 tyS3 (q 38)) (OptL.opt OptL.nil) (GuardV.plain _)) rfl (c (oq hN 37 (fo 1004 3 [1] hN underlying44 3 tyS3 (q 4)) (OptL.keep (by rfl) OptL.nil) (GuardV.plain _)) rfl (c (oq hN 37 (la hN 44 tyS3 (q 40)) (OptL.opt OptL.nil) (GuardV.plain _)) rfl (c (oq hN 37 (OpJ.geq (L rfl) (q 39) (q 41)) (OptL.opt (OptL.opt OptL.nil)) (GuardV.plain _)) rfl (c (OpJ.pickAnd rfl (L rfl) (q 37) (q 42)) rfl cn))))))))))))))) ?_
      refine AWp.cond rfl (fun hg64 => ?_) (fun hg64 => ?_)
      ·replace h := ite_t hg64 h
       refine rg (c (OpJ.assign (L rfl) (Opd.int .i64 (1))) rfl cn) ?_
       apply blkQ_n
       exact hjj56 _ h _ _ (mp [(3009, 1026)] _ _ hB)
      ·replace h := ite_f hg64 h
       apply AWp.skip
       apply blkQ_n
       exact hjj56 _ h _ _ (mp [(3009, 1026)] _ _ hB)
     ·refine AWp.cond rfl (fun hg65 => ?_) (fun hg65 => ?_)
      ·replace h := ite_t hg65 h
       refine rg (c (OpJ.assign (L rfl) (Opd.int .i64 (2))) rfl cn) ?_
       exact hjj63 _ h _ _ (mp [] _ _ hB)
      ·replace h := ite_f hg65 h
       apply AWp.skip
       exact hjj63 _ h _ _ (mp [] _ _ hB)
  ·replace h := ite_f hg45 h
   apply AWp.exit
   apply seqQ_e
   obtain rfl := Option.some.inj h
   exact ⟨(fun hc => by cases hc), rfl, (mp [] _ _ hB)⟩
 ·obtain ⟨rfl, hmat⟩ := hR
  apply blkQ_hit
  apply seqQ_n
  refine AWp.ghost hmat ?_
  refine sr (c (mv hN (q 8)) rfl (c (mv hN (q 9)) rfl (c (OpJ.assign (L rfl) (q 45)) rfl (c (OpJ.assign (L rfl) (q 46)) rfl cn)))) ?_
  apply AWp.ret
  obtain rfl := Option.some.inj h
  exact ⟨.inl rfl, _, _, (Mat.trans (Mat.freezeP (n := 3009) (e := 46) (sz := 6) (es := p44.2.map e_api_Object) (Ts := [(7, (qe_api_Object_6 p44.2))]) (Bs := []) (by rfl) (TwT.cons (x := (.sref 3009 6 0 p44.2.length)) (by rfl) (FrzL.all (by first | rfl | (simp; done) | (simp; omega) | omega)) TwT.nil) TwB.nil) (mp [] [(6, (i6 p44.1)), (7, (qe_api_Object_6 p44.2))] [] hB)), [(i6 p44.1), (qe_api_Object_6 p44.2)], (Res.tmp (by rfl) (by rfl) (Res.tmp (by rfl) (by rfl) Res.nil)), rfl, by rfl, by rfl, by rfl⟩
noncomputable def exchangepointref20_SameObjects_L0 (a0 : (List api_Object)) (a1 : (List api_Object)) (s2 : Int) : Option (((Unit) ⊕ (Unit)) ⊕ (Int)) :=
 (if (decide (s2 < (a0.length : Int))) = true then
 (idx a0 s2).bind fun x14 =>
 (idx a1 s2).bind fun x15 =>
 (if (!((((x15.fPrefix.fAddr.fV6 == x14.fPrefix.fAddr.fV6) && ((x15.fPrefix.fAddr.fHi == x14.fPrefix.fAddr.fHi) && ((x15.fPrefix.fAddr.fLo == x14.fPrefix.fAddr.fLo) && true))) && ((x15.fPrefix.fLen == x14.fPrefix.fLen) && true)) && ((x15.fMax == x14.fMax) && ((x15.fASN == x14.fASN) && true)))) = true then
 some (.inl (.inl ()))
 else
 some (.inr (w64 (s2 + (1 : Int)))))
 else
 some (.inl (.inr ())))
noncomputable def exchangepointref20_SameObjects (a0 : (List api_Object)) (a1 : (List api_Object)) : Option (Bool) :=
 (if ((a0.length : Int) != (a1.length : Int)) = true then
 some false
 else
 (loop (exchangepointref20_SameObjects_L0 a0 a1) (0 : Int)).bind fun x17 => match x17 with
 | (.inl _) =>
  some false
 | (.inr _) =>
  some true)
theorem exchangepointref20_SameObjects_ac (a0 : (List api_Object)) (a1 : (List api_Object)) (r : Bool) (h : exchangepointref20_SameObjects a0 a1 = some r) : AC Tryd.prog 17 [(.d (.list 6 (a0.map e_api_Object))), (.d (.list 6 (a1.map e_api_Object)))] [] (.d (.bool r)) [] := by
 refine AC.of_code2 Tryd.func17 rfl rfl (Nat.le_of_ble_eq_true (by rfl)) fun B hB hN => ?_
 have L {d : Nat} (h : Nat.blt d Tryd.f17.ntmps = true) : d < B.N := ltN hN h
 delta exchangepointref20_SameObjects at h
 refine sr (c (OpJ.assign (L rfl) (Opd.bool false)) rfl cn) ?_
 apply AWp.seq
 refine sr (c (mv hN (q 0)) rfl (c (OpJ.val (v' := (i6 (a0.length : Int))) (by simp) (OpJ.lenD underlying38 (L rfl) (q 7))) rfl (c (mv hN (q 1)) rfl (c (OpJ.val (v' := (i6 (a1.length : Int))) (by simp) (OpJ.lenD underlying38 (L rfl) (q 9))) rfl (c (OpJ.neqI (L rfl) (q 8) (q 10)) rfl cn))))) ?_
 refine AWp.cond rfl (fun hg1 => ?_) (fun hg1 => ?_)
 ·replace h := ite_t hg1 h
  refine sr (c (OpJ.assign (L rfl) (Opd.bool false)) rfl cn) ?_
  apply AWp.ret
  apply seqQ_r
  obtain rfl := Option.some.inj h
  exact ⟨.inl rfl, _, _, (kp [(4, _)] [] hB rfl rfl (by rfl)), [(bo false)], (Res.tmp (by rfl) (by rfl) Res.nil), rfl, by rfl, by rfl, by rfl⟩
 ·replace h := ite_f hg1 h
  apply AWp.skip
  apply seqQ_n
  apply AWp.seq
  refine sr (c (mv hN (q 0)) rfl (c (OpJ.val (v' := (i6 (a0.length : Int))) (by simp) (OpJ.lenD underlying38 (L rfl) (q 12))) rfl (c (mv hN (Opd.int .i64 (0))) rfl cn))) ?_
  apply AWp.block
  obtain ⟨x17, hx18, h⟩ := bindS h
  refine lg (exchangepointref20_SameObjects_L0 a0 a1) (fun s2 : Int => ([(1, (qe_api_Object_6 a1)), (12, (qe_api_Object_6 a0)), (13, (i6 (a0.length : Int))), (14, (i6 s2))] : EL)) (fun s2 : Int => ([] : OL)) (fun (x : (Unit) ⊕ (Unit)) e E' O' => match x with | (.inl _p) => e = .ret ∧ Mat B E' O' ([(4, (bo false))] : EL) ([] : OL) | (.inr _p) => e = .exit 0 ∧ Mat B E' O' ([] : EL) ([] : OL)) hx18 (mp [] _ _ hB) (fun s2 y h => ?_) (fun e E' O' hR => ?_)
  ·unfold exchangepointref20_SameObjects_L0 at h
   refine sr (c (OpJ.lss (L rfl) (q 14) (q 13)) rfl cn) ?_
   apply AWp.seq
   refine AWp.cond rfl (fun hg13 => ?_) (fun hg13 => ?_)
   ·replace h := ite_t hg13 h
    apply AWp.skip
    apply seqQ_n
    apply AWp.seq
    apply AWp.block
    obtain ⟨x14, hx14, h⟩ := bindS h
    refine sr (c (mv hN (q 14)) rfl (c (OpJ.indexD underlying38 tyS46 (idx_some hx14).1 (get_map e_api_Object (idx_some hx14).2) (L rfl) (q 12) (q 14)) rfl (c (OpJ.loadD tyS46 (by rfl) (by rfl) (L rfl) (q 17)) rfl (cg (OpJ.alloc hB tyZ46 (nm := 1006) (by decide) (L rfl)) rfl (c (OpJ.assign (L rfl) (q 16)) rfl (cg (sB tyS46 (q 6) (q 18)) rfl cn)))))) ?_
    obtain ⟨x15, hx15, h⟩ := bindS h
    refine sd (c (mv hN (q 1)) rfl (c (mv hN (q 5)) rfl (c (OpJ.indexD underlying38 tyS46 (idx_some hx15).1 (get_map e_api_Object (idx_some hx15).2) (L rfl) (q 19) (q 20)) rfl (c (OpJ.loadD tyS46 (by rfl) (by rfl) (L rfl) (q 21)) rfl (c (lb hN 46 _ _ tyS46 (At.here _) (q 6)) rfl (c (OpJ.neqD (h := 4) (FitE.st underlying46 rfl held46 (FitF.cons (x := (e_api_Prefix x15.fPrefix)) (y := (e_api_Prefix x14.fPrefix)) (by decide) rfl tyS44 ⟨rfl, rfl⟩ ⟨rfl, rfl⟩ (FitE.st underlying44 rfl held44 (FitF.cons (x := (e_api_Addr x15.fPrefix.fAddr)) (y := (e_api_Addr x14.fPrefix.fAddr)) (by decide) rfl tyS42 ⟨rfl, rfl⟩ ⟨rfl, rfl⟩ (FitE.st underlying42 rfl held42 (FitF.cons (x := (.bool x15.fPrefix.fAddr.fV6)) (y := (.bool x14.fPrefix.fAddr.fV6)) (by decide) rfl tyS4 ⟨rfl, rfl⟩ ⟨rfl, rfl⟩ (FitE.bool (h := 0) x15.fPrefix.fAddr.fV6 x14.fPrefix.fAddr.fV6 underlying4) (FitF.cons (x := (.int .u64 x15.fPrefix.fAddr.fHi)) (y := (.int .u64 x14.fPrefix.fAddr.fHi)) (by decide) rfl tyS40 ⟨rfl, rfl⟩ ⟨rfl, rfl⟩ (FitE.int (h := 0) x15.fPrefix.fAddr.fHi x14.fPrefix.fAddr.fHi underlying40) (FitF.cons (x := (.int .u64 x15.fPrefix.fAddr.fLo)) (y := (.int .u64 x14.fPrefix.fAddr.fLo)) (by decide) rfl tyS40 ⟨rfl, rfl⟩ ⟨rfl, rfl⟩ (FitE.int (h := 0) x15.fPrefix.fAddr.fLo x14.fPrefix.fAddr.fLo underlying40) FitF.nil)))) (FitF.cons (x := (.int .i64 x15.fPrefix.fLen)) (y := (.int .i64 x14.fPrefix.fLen)) (by decide) rfl tyS3 ⟨rfl, rfl⟩ ⟨rfl, rfl⟩ (FitE.int (h := 1) x15.fPrefix.fLen x14.fPrefix.fLen underlying3) FitF.nil))) (FitF.cons (x := (.int .i64 x15.fMax)) (y := (.int .i64 x14.fMax)) (by decide) rfl tyS3 ⟨rfl, rfl⟩ ⟨rfl, rfl⟩ (FitE.int (h := 2) x15.fMax x14.fMax underlying3) (FitF.cons (x := (.int .i64 x15.fASN)) (y := (.int .i64 x14.fASN)) (by decide) rfl tyS3 ⟨rfl, rfl⟩ ⟨rfl, rfl⟩ (FitE.int (h := 2) x15.fASN x14.fASN underlying3) FitF.nil)))) eqg46 ⟨rfl, rfl⟩ (by rfl) (L rfl) (q 22) (q 23)) rfl cn)))))) (by kernel_rfl) (by kernel_rfl) ?_
    refine AWp.cond rfl (fun hg16 => ?_) (fun hg16 => ?_)
    ·replace h := ite_t hg16 h
     refine sr (c (OpJ.assign (L rfl) (Opd.bool false)) rfl cn) ?_
     apply AWp.ret
     apply blkQ_r
     apply seqQ_r
     obtain rfl := Option.some.inj h
     exact ⟨(fun hc => by cases hc), rfl, (mp [] _ _ hB)⟩
    ·replace h := ite_f hg16 h
     apply AWp.skip
     apply blkQ_n
     apply seqQ_n
     refine rg (c (add6 (L rfl) (q 14) (Opd.int .i64 (1))) rfl (c (mv hN (q 25)) rfl cn)) ?_
     obtain rfl := Option.some.inj h
     exact ⟨rfl, (mp [] _ _ hB)⟩
   ·replace h := ite_f hg13 h
    apply AWp.exit
    apply seqQ_e
    obtain rfl := Option.some.inj h
    exact ⟨(fun hc => by cases hc), rfl, (mp [] _ _ hB)⟩
  ·rcases x17 with _ | _
   ·obtain ⟨rfl, hmat⟩ := hR
    apply blkQ_r
    apply seqQ_r
    obtain rfl := Option.some.inj h
    exact ⟨.inl rfl, _, _, (Mat.trans hmat (mp [] [(4, (bo false))] [] hB)), [(bo false)], (Res.tmp (by rfl) (by rfl) Res.nil), rfl, by rfl, by rfl, by rfl⟩
   ·obtain ⟨rfl, hmat⟩ := hR
    apply blkQ_hit
    apply seqQ_n
    refine AWp.ghost hmat ?_
    refine sr (c (OpJ.assign (L rfl) (Opd.bool true)) rfl cn) ?_
    apply AWp.ret
    obtain rfl := Option.some.inj h
    exact ⟨.inl rfl, _, _, (kp [(4, _)] [] hB rfl rfl (by rfl)), [(bo true)], (Res.tmp (by rfl) (by rfl) Res.nil), rfl, by rfl, by rfl, by rfl⟩
noncomputable def exchangepointlaw22_OriginStates_L0 (s3 : Int × (List api_Object) × exchangepointmake_Deck) : Option ((((List api_Object) × exchangepointmake_Deck)) ⊕ (Int × (List api_Object) × exchangepointmake_Deck)) :=
 (if (decide ((0 : Int) < s3.1)) = true then
 (exchangepointmake_Deck_Object s3.2.2).bind fun r14 =>
 (exchangepointmake_Deck_Next r14.2 (5 : Int)).bind fun r15 =>
 chk (decide ((s3.2.1 ++ ([(api_Object.mk r14.1.fPrefix r14.1.fMax r15.1)] : List api_Object)).length ≤ LIM)) <|
 some (.inr ((w64 (s3.1 - (1 : Int))), (s3.2.1 ++ ([(api_Object.mk r14.1.fPrefix r14.1.fMax r15.1)] : List api_Object)), r15.2))
 else
 some (.inl (s3.2.1, s3.2.2)))
noncomputable def exchangepointlaw22_OriginStates_L1 (p12 : (List api_Object) × exchangepointmake_Deck) (s20 : Int × (List api_Prefix) × exchangepointmake_Deck) : Option ((((List api_Prefix))) ⊕ (Int × (List api_Prefix) × exchangepointmake_Deck)) :=
 (if (decide (s20.1 < (p12.1.length : Int))) = true then
 (idx p12.1 s20.1).bind fun x47 =>
 (idx p12.1 s20.1).bind fun x48 =>
 (exchangepointmake_Deck_Next s20.2.2 (3 : Int)).bind fun r49 =>
 (exchangepointref02_Make x48.fPrefix.fAddr (w64 ((w64 (x48.fMax + r49.1)) - (1 : Int)))).bind fun r50 =>
 chk (decide ((s20.2.1 ++ ([x48.fPrefix] : List api_Prefix)).length ≤ LIM)) <|
 jn (fun m54 : (List api_Prefix) =>
 some (.inr ((w64 (s20.1 + (1 : Int))), m54, r49.2))) (fun j55 =>
 (if (r50.2 == (0 : Int)) = true then
 chk (decide (((s20.2.1 ++ ([x48.fPrefix] : List api_Prefix)) ++ ([r50.1] : List api_Prefix)).length ≤ LIM)) <|
 j55 ((s20.2.1 ++ ([x48.fPrefix] : List api_Prefix)) ++ ([r50.1] : List api_Prefix))
 else
 j55 (s20.2.1 ++ ([x48.fPrefix] : List api_Prefix))))
 else
 some (.inl s20.2.1))
noncomputable def exchangepointlaw22_OriginStates_L3 (a1 : Int) (p12 : (List api_Object) × exchangepointmake_Deck) (x151 : api_Prefix) (r152 : Int) (s153 : Int) : Option (((Unit) ⊕ (Unit)) ⊕ (Int)) :=
 (if (decide (s153 < (([a1, (w64 (r152 - (1 : Int)))] : List Int).length : Int))) = true then
 (idx ([a1, (w64 (r152 - (1 : Int)))] : List Int) s153).bind fun x179 =>
 (origin_State p12.1 x151 x179).bind fun r180 =>
 (exchangepointref22_State p12.1 x151 x179).bind fun r181 =>
 jn (fun m184 : Bool =>
 (if m184 = true then
 some (.inl (.inl ()))
 else
 some (.inr (w64 (s153 + (1 : Int)))))) (fun j185 =>
 (if (r180.1 != r181.1) = true then
 j185 true
 else
 (exchangepointref20_SameObjects r180.2 r181.2).bind fun r188 =>
 j185 (!r188)))
 else
 some (.inl (.inr ())))
noncomputable def exchangepointlaw22_OriginStates_L2 (a1 : Int) (p12 : (List api_Object) × exchangepointmake_Deck) (p45 : (List api_Prefix)) (s60 : Int) : Option (((Unit) ⊕ (Unit)) ⊕ (Int)) :=
 (if (decide (s60 < (p45.length : Int))) = true then
 (idx p45 s60).bind fun x150 =>
 (idx p45 s60).bind fun x151 =>
 (exchangepointmake_Mod a1 (6 : Int)).bind fun r152 =>
 (loop (exchangepointlaw22_OriginStates_L3 a1 p12 x151 r152) (0 : Int)).bind fun x189 => match x189 with
 | (.inl _) =>
  some (.inl (.inl ()))
 | (.inr _) =>
  some (.inr (w64 (s60 + (1 : Int))))
 else
 some (.inl (.inr ())))
noncomputable def exchangepointlaw22_OriginStates (a0 : (List Int)) (a1 : Int) : Option (Bool) :=
 (exchangepointmake_New a0).bind fun r1 =>
 (exchangepointmake_Deck_Next r1 (14 : Int)).bind fun r2 =>
 (loop (exchangepointlaw22_OriginStates_L0) (r2.1, ([] : List api_Object), r2.2)).bind fun p12 =>
 (exchangepointmake_Deck_Prefix p12.2).bind fun r19 =>
 (loop (exchangepointlaw22_OriginStates_L1 p12) ((0 : Int), ([r19.1] : List api_Prefix), r19.2)).bind fun p45 =>
 (loop (exchangepointlaw22_OriginStates_L2 a1 p12 p45) (0 : Int)).bind fun x191 => match x191 with
 | (.inl _) =>
  some false
 | (.inr _) =>
  (exchangepointlaw22_awake).bind fun r193 =>
  some r193
theorem exchangepointlaw22_OriginStates_ac (a0 : (List Int)) (a1 : Int) (r : Bool) (h : exchangepointlaw22_OriginStates a0 a1 = some r) : AC Tryd.prog 4 [(.d (.list 1 (a0.map (eI .i64)))), (.d (.int .i64 a1))] [(500, (.know (globF 0 [82, 122, 123]))), (501, (.know (globF 1 [77, 124, 125])))] (.d (.bool r)) [(500, some (.know (globF 0 [82, 122, 123]))), (501, some (.know (globF 1 [77, 124, 125])))] := by
 refine AC.of_code2 Tryd.func4 rfl rfl (Nat.le_of_ble_eq_true (by rfl)) fun B hB hN => ?_
 have L {d : Nat} (h : Nat.blt d Tryd.f4.ntmps = true) : d < B.N := ltN hN h
 delta exchangepointlaw22_OriginStates at h
 refine sr (c (OpJ.assign (L rfl) (Opd.bool false)) rfl cn) ?_
 apply AWp.seq
 obtain ⟨r1, hr1, h⟩ := bindS h
 refine AWp.region (oc (mv hN (ot 0 (qI_1 a0)))
 (oc (OpJ.callFn hB fnOk6 (exchangepointmake_New_ac a0 r1 hr1) [(1005, 100000)] (by kernel_rfl) (L rfl) (by kernel_rfl) (OpdL.cons (ot 22 (qI_1 a0)) OpdL.nil))
 (oc (OpJ.assign (L rfl) (ot 23 (pt 100000)))
 (OpJs.nil)))) (by rfl) (by rfl) ?_
 apply seqQ_n
 refine AWp.ghost (mp [] [(1, (i6 a1)), (5, (pt 100000))] [(500, some (.know (globF 0 [82, 122, 123]))), (501, some (.know (globF 1 [77, 124, 125]))), (100000, bd 60 (e_exchangepointmake_Deck r1))] hB) ?_
 refine sr (c (OpJ.assign (L rfl) Opd.nils) rfl cn) ?_
 apply AWp.seq
 apply AWp.seq
 obtain ⟨r2, hr2, h⟩ := bindS h
 refine AWp.region (oc (mv hN (ot 5 (pt 100000)))
 (oc (OpJ.callFn hB fnOk11 (exchangepointmake_Deck_Next_ac r1 (14 : Int) r2 hr2) [(0, 100000)] (by kernel_rfl) (L rfl) (by kernel_rfl) (OpdL.cons (ot 24 (pt 100000)) (OpdL.cons (Opd.int .i64 (14)) OpdL.nil)))
 (oc (OpJ.assign (L rfl) (ot 25 (i6 r2.1)))
 (OpJs.nil)))) (by rfl) (by rfl) ?_
 apply seqQ_n
 refine AWp.ghost (mp [] [(1, (i6 a1)), (5, (pt 100000)), (6, .nils), (7, (i6 r2.1))] [(500, some (.know (globF 0 [82, 122, 123]))), (501, some (.know (globF 1 [77, 124, 125]))), (100000, bd 60 (e_exchangepointmake_Deck r2.2))] hB) ?_
 apply AWp.block
 obtain ⟨p12, hx18, h⟩ := bindS h
 refine lg (exchangepointlaw22_OriginStates_L0) (fun s3 : Int × (List api_Object) × exchangepointmake_Deck => ([(1, (i6 a1)), (5, (pt 100000)), (6, (.sref 3006 6 0 s3.2.1.length)), (7, (i6 s3.1))] : EL)) (fun s3 : Int × (List api_Object) × exchangepointmake_Deck => ([(500, some (.know (globF 0 [82, 122, 123]))), (501, some (.know (globF 1 [77, 124, 125]))), (3006, some (we_api_Object_46_6 s3.2.1)), (100000, bd 60 (e_exchangepointmake_Deck s3.2.2))] : OL)) (fun (p12 : ((List api_Object) × exchangepointmake_Deck)) e E' O' => e = .exit 0 ∧ Mat B E' O' ([(1, (i6 a1)), (5, (pt 100000)), (6, (.sref 3006 6 0 p12.1.length))] : EL) ([(500, some (.know (globF 0 [82, 122, 123]))), (501, some (.know (globF 1 [77, 124, 125]))), (3006, some (we_api_Object_46_6 p12.1)), (100000, bd 60 (e_exchangepointmake_Deck p12.2))] : OL)) hx18 (Mat.trans (Mat.beginP (n := 3006) (e := 46) (sz := 6) (Ts := [(6, (.sref 3006 6 0 0))]) (Bs := []) hB (by decide) (by rfl) (by decide) (TwT.cons (x := .nils) (by rfl) (Tw.leaf ⟨rfl, rfl⟩) TwT.nil) TwB.nil) (mp [] _ _ hB)) (fun s3 y h => ?_) (fun e E' O' hR => ?_)
 ·unfold exchangepointlaw22_OriginStates_L0 at h
  apply AWp.seq
  refine sr (c (mv hN (q 7)) rfl (c (OpJ.gtr (L rfl) (q 26) (Opd.int .i64 (0))) rfl cn)) ?_
  refine AWp.cond rfl (fun hg13 => ?_) (fun hg13 => ?_)
  ·replace h := ite_t hg13 h
   apply AWp.skip
   apply seqQ_n
   apply AWp.seq
   apply AWp.block
   apply AWp.seq
   obtain ⟨r14, hr14, h⟩ := bindS h
   refine AWp.region (oc (mv hN (ot 5 (pt 100000)))
    (oc (OpJ.callFn hB fnOk12 (exchangepointmake_Deck_Object_ac s3.2.2 r14 hr14) [(0, 100000)] (by kernel_rfl) (L rfl) (by kernel_rfl) (OpdL.cons (ot 30 (pt 100000)) OpdL.nil))
    (oc (OpJ.alloc hB tyZ46 (nm := 1008) (by decide) (L rfl))
    (oc (OpJ.storeB (bt := 46) (c := (.d (.st [(.st [(.st [(.bool false), (.int .u64 0), (.int .u64 0)]), (.int .i64 0)]), (.int .i64 0), (.int .i64 0)]))) (v := (.d (e_api_Object r14.1))) (c' := (.d (e_api_Object r14.1))) tyS46 (SetAt.here _ _) (by rfl) (by rfl) (by simp) rfl (ot 8 (pt 1008)) (ot 31 (.d (e_api_Object r14.1))))
    (OpJs.nil))))) (by rfl) (by rfl) ?_
   apply seqQ_n
   refine AWp.ghost (mp [] [(1, (i6 a1)), (5, (pt 100000)), (6, (.sref 3006 6 0 s3.2.1.length)), (7, (i6 s3.1)), (8, (pt 1008))] [(500, some (.know (globF 0 [82, 122, 123]))), (501, some (.know (globF 1 [77, 124, 125]))), (1008, bd 46 (e_api_Object r14.1)), (3006, some (we_api_Object_46_6 s3.2.1)), (100000, bd 60 (e_exchangepointmake_Deck r14.2))] hB) ?_
   apply AWp.seq
   obtain ⟨r15, hr15, h⟩ := bindS h
   refine AWp.region (oc (mv hN (ot 5 (pt 100000)))
    (oc (OpJ.callFn hB fnOk11 (exchangepointmake_Deck_Next_ac r14.2 (5 : Int) r15 hr15) [(0, 100000)] (by kernel_rfl) (L rfl) (by kernel_rfl) (OpdL.cons (ot 32 (pt 100000)) (OpdL.cons (Opd.int .i64 (5)) OpdL.nil)))
    (oc (ov (.ptr 1008 5 [2]) (fp hN underlying46 5 tyS3 (.box 46 (.d (e_api_Object r14.1))) (ot 8 (pt 1008))))
    (oc (OpJ.storeB (bt := 46) (c := (.d (e_api_Object r14.1))) (v := (i6 r15.1)) (c' := (.d (.st [(e_api_Prefix r14.1.fPrefix), (.int .i64 r14.1.fMax), (.int .i64 r15.1)]))) tyS3 (SetAt.dst1 (f := (.int .i64 r14.1.fASN)) (f' := (.int .i64 r15.1)) (by rfl) (by rfl) (SetAt.here _ _) (by rfl) (by rfl) (by first | rfl | omega)) (by rfl) (by rfl) (by simp) rfl (ot 34 (.ptr 1008 5 [2])) (ot 33 (i6 r15.1)))
    (OpJs.nil))))) (by rfl) (by rfl) ?_
   apply seqQ_n
   refine AWp.ghost (mp [] [(1, (i6 a1)), (5, (pt 100000)), (6, (.sref 3006 6 0 s3.2.1.length)), (7, (i6 s3.1)), (8, (pt 1008))] [(500, some (.know (globF 0 [82, 122, 123]))), (501, some (.know (globF 1 [77, 124, 125]))), (1008, bd 46 (.st [(e_api_Prefix r14.1.fPrefix), (.int .i64 r14.1.fMax), (.int .i64 r15.1)])), (3006, some (we_api_Object_46_6 s3.2.1)), (100000, bd 60 (e_exchangepointmake_Deck r15.2))] hB) ?_
   obtain ⟨hc16, h⟩ := chk_some h
   refine rg (c (mv hN (q 6)) rfl (c (lb hN 46 _ _ tyS46 (At.here _) (q 8)) rfl (c (OpJ.buildSlice underlying38 tyS46 tyZD46 (by rfl) (by decide) (by decide) (Opds.cons (q 36) Opds.nil) (by kernel_rfl) (es := ([(.st [(e_api_Prefix r14.1.fPrefix), (.int .i64 r14.1.fMax), (.int .i64 r15.1)])] : List D)) (by rfl) (by rfl) (by kernel_rfl) (by simp) (L rfl)) rfl (cg (apd hB underlying38 tyE46 1038 e_api_Object s3.2.1 ([(api_Object.mk r14.1.fPrefix r14.1.fMax r15.1)] : List api_Object) hc16 (L rfl) (q 35) (q 37)) rfl (c (OpJ.assign (L rfl) (q 38)) rfl cn))))) ?_
   apply blkQ_n
   apply seqQ_n
   refine rg (c (mv hN (q 7)) rfl (c (sub6 (L rfl) (q 28) (Opd.int .i64 (1))) rfl (c (OpJ.assign (L rfl) (q 29)) rfl cn))) ?_
   obtain rfl := Option.some.inj h
   exact ⟨rfl, (mp [(3006, 1038)] _ _ hB)⟩
  ·replace h := ite_f hg13 h
   apply AWp.exit
   apply seqQ_e
   obtain rfl := Option.some.inj h
   exact ⟨(fun hc => by cases hc), rfl, (mp [] _ _ hB)⟩
 ·obtain ⟨rfl, hmat⟩ := hR
  apply blkQ_hit
  apply seqQ_n
  refine AWp.ghost hmat ?_
  apply AWp.seq
  obtain ⟨r19, hr19, h⟩ := bindS h
  refine AWp.region (oc (mv hN (ot 5 (pt 100000)))
   (oc (OpJ.callFn hB fnOk13 (exchangepointmake_Deck_Prefix_ac p12.2 r19 hr19) [(0, 100000)] (by kernel_rfl) (L rfl) (by kernel_rfl) (OpdL.cons (ot 39 (pt 100000)) OpdL.nil))
   (oc (OpJ.buildSliceR underlying49 tyS44 tyZD44 (by rfl) (by decide) (by decide) hB (nm := 1041) (by decide) (len := ([r19.1] : List api_Prefix).length) (by rfl) (Opds.cons (ot 40 (.d (e_api_Prefix r19.1))) Opds.nil) (by kernel_rfl) (es := ([r19.1] : List api_Prefix).map e_api_Prefix) (by rfl) (by rfl) (by kernel_rfl) (by simp) (L rfl))
   (oc (OpJ.assign (L rfl) (ot 41 (.sref 1041 4 0 (([r19.1] : List api_Prefix).length))))
   (OpJs.nil))))) (by rfl) (by rfl) ?_
  apply seqQ_n
  refine AWp.ghost (mp [] [(1, (i6 a1)), (5, (pt 100000)), (6, (.sref 3006 6 0 p12.1.length)), (9, (.sref 1041 4 0 (([r19.1] : List api_Prefix).length)))] [(500, some (.know (globF 0 [82, 122, 123]))), (501, some (.know (globF 1 [77, 124, 125]))), (1041, some (we_api_Prefix_44_4 ([r19.1] : List api_Prefix))), (3006, some (we_api_Object_46_6 p12.1)), (100000, bd 60 (e_exchangepointmake_Deck r19.2))] hB) ?_
  apply AWp.seq
  refine sr (c (mv hN (q 6)) rfl (c (OpJ.lenS underlying38 (L rfl) (q 42)) rfl (c (mv hN (Opd.int .i64 (0))) rfl cn))) ?_
  apply AWp.block
  obtain ⟨p45, hx59, h⟩ := bindS h
  refine lg (exchangepointlaw22_OriginStates_L1 p12) (fun s20 : Int × (List api_Prefix) × exchangepointmake_Deck => ([(1, (i6 a1)), (5, (pt 100000)), (6, (.sref 3006 6 0 p12.1.length)), (9, (.sref 3009 4 0 s20.2.1.length)), (42, (.sref 3006 6 0 p12.1.length)), (43, (i6 (p12.1.length : Int))), (44, (i6 s20.1))] : EL)) (fun s20 : Int × (List api_Prefix) × exchangepointmake_Deck => ([(500, some (.know (globF 0 [82, 122, 123]))), (501, some (.know (globF 1 [77, 124, 125]))), (3006, some (we_api_Object_46_6 p12.1)), (3009, some (we_api_Prefix_44_4 s20.2.1)), (100000, bd 60 (e_exchangepointmake_Deck s20.2.2))] : OL)) (fun (p45 : ((List api_Prefix))) e E' O' => e = .exit 2 ∧ Mat B E' O' ([(1, (i6 a1)), (6, (.sref 3006 6 0 p12.1.length)), (9, (.sref 3009 4 0 p45.length))] : EL) ([(500, some (.know (globF 0 [82, 122, 123]))), (501, some (.know (globF 1 [77, 124, 125]))), (3006, some (we_api_Object_46_6 p12.1)), (3009, some (we_api_Prefix_44_4 p45))] : OL)) hx59 (mp [(3009, 1041)] _ _ hB) (fun s20 y h => ?_) (fun e E' O' hR => ?_)
  ·unfold exchangepointlaw22_OriginStates_L1 at h
   refine sr (c (OpJ.lss (L rfl) (q 44) (q 43)) rfl cn) ?_
   apply AWp.seq
   refine AWp.cond rfl (fun hg46 => ?_) (fun hg46 => ?_)
   ·replace h := ite_t hg46 h
    apply AWp.skip
    apply seqQ_n
    apply AWp.seq
    apply AWp.block
    obtain ⟨x47, hx47, h⟩ := bindS h
    obtain ⟨x48, hx48, h⟩ := bindS h
    refine sr (c (OpJ.val (v' := (.ptr 3006 (s20.1.toNat * 6) [s20.1.toNat])) (by simp) (OpJ.indexS underlying38 tyS46 (idx_some hx47).1 (by have := idx_lt hx47; first | (simpa using this) | ((try simp only [List.length_map] at this); (try simp only [List.length_map]); omega)) (L rfl) (q 42) (q 44))) rfl (c (OpJ.loadR (e := 46) (sz := 6) tyS46 (get_map e_api_Object (idx_some hx48).2) (o := 0) (At.here _) (by rfl) (by rfl) (by rfl) (L rfl) (q 46)) rfl (cg (OpJ.alloc hB tyZ46 (nm := 1011) (by decide) (L rfl)) rfl (cg (sB tyS46 (q 11) (q 47)) rfl cn)))) ?_
    apply AWp.seq
    obtain ⟨r49, hr49, h⟩ := bindS h
    obtain ⟨r50, hr50, h⟩ := bindS h
    refine AWp.draws (by kernel_rfl) (oc (ov (.ptr 1011 0 [0]) (fp hN underlying46 0 tyS44 (.box 46 (.d (e_api_Object x48))) (ot 11 (pt 1011))))
     (oc (ov (.ptr 1011 0 [0, 0]) (fp hN underlying44 0 tyS42 (.box 46 (.d (e_api_Object x48))) (ot 49 (.ptr 1011 0 [0]))))
     (oc (lb hN 46 (.d (e_api_Object x48)) (.d (e_api_Addr x48.fPrefix.fAddr)) tyS42 (At.dst1 (f := (e_api_Prefix x48.fPrefix)) (by rfl) (by rfl) (ad (e_api_Addr x48.fPrefix.fAddr)) (by first | rfl | omega)) (ot 50 (.ptr 1011 0 [0, 0])))
     (oc (ov (.ptr 1011 4 [1]) (fp hN underlying46 4 tyS3 (.box 46 (.d (e_api_Object x48))) (ot 11 (pt 1011))))
     (oc (lb hN 46 (.d (e_api_Object x48)) (i6 x48.fMax) tyS3 (ad (.int .i64 x48.fMax)) (ot 52 (.ptr 1011 4 [1])))
     (oc (mv hN (ot 5 (pt 100000)))
     (oc (OpJ.callFn hB fnOk11 (exchangepointmake_Deck_Next_ac s20.2.2 (3 : Int) r49 hr49) [(0, 100000)] (by kernel_rfl) (L rfl) (by kernel_rfl) (OpdL.cons (ot 54 (pt 100000)) (OpdL.cons (Opd.int .i64 (3)) OpdL.nil)))
     (oc (add6 (L rfl) (ot 53 (i6 x48.fMax)) (ot 55 (i6 r49.1)))
     (oc (sub6 (L rfl) (ot 56 (i6 (w64 (x48.fMax + r49.1)))) (Opd.int .i64 (1)))
     (oc (OpJ.callFn hB fnOk14 (exchangepointref02_Make_ac x48.fPrefix.fAddr (w64 ((w64 (x48.fMax + r49.1)) - (1 : Int))) r50 hr50) [] (by kernel_rfl) (L rfl) (by kernel_rfl) (OpdL.cons (ot 51 (.d (e_api_Addr x48.fPrefix.fAddr))) (OpdL.cons (ot 57 (i6 (w64 ((w64 (x48.fMax + r49.1)) - (1 : Int))))) OpdL.nil)))
     (oc (mv hN (ot 58 (.tup [(.d (e_api_Prefix r50.1)), (i6 r50.2)])))
     (oc (OpJ.extract (v := (.d (e_api_Prefix r50.1))) (by rfl) rfl (L rfl) (ot 48 (.tup [(.d (e_api_Prefix r50.1)), (i6 r50.2)])))
     (oc (OpJ.extract (v := (i6 r50.2)) (by rfl) rfl (L rfl) (ot 48 (.tup [(.d (e_api_Prefix r50.1)), (i6 r50.2)])))
     (oc (OpJ.alloc hB tyZ44 (nm := 1012) (by decide) (L rfl))
     (oc (OpJ.storeB (bt := 44) (c := (.d (.st [(.st [(.bool false), (.int .u64 0), (.int .u64 0)]), (.int .i64 0)]))) (v := (.d (e_api_Prefix r50.1))) (c' := (.d (e_api_Prefix r50.1))) tyS44 (SetAt.here _ _) (by rfl) (by rfl) (by simp) rfl (ot 12 (pt 1012)) (ot 59 (.d (e_api_Prefix r50.1))))
     (oc (OpJ.assign (L rfl) (ot 60 (i6 r50.2)))
     (OpJs.nil))))))))))))))))) (by kernel_rfl) (by rfl) (by rfl) ?_
    apply seqQ_n
    refine AWp.ghost (mp [] [(1, (i6 a1)), (5, (pt 100000)), (6, (.sref 3006 6 0 p12.1.length)), (9, (.sref 3009 4 0 s20.2.1.length)), (11, (pt 1011)), (12, (pt 1012)), (13, (i6 r50.2)), (42, (.sref 3006 6 0 p12.1.length)), (43, (i6 (p12.1.length : Int))), (44, (i6 s20.1))] [(500, some (.know (globF 0 [82, 122, 123]))), (501, some (.know (globF 1 [77, 124, 125]))), (1011, bd 46 (e_api_Object x48)), (1012, bd 44 (e_api_Prefix r50.1)), (3006, some (we_api_Object_46_6 p12.1)), (3009, some (we_api_Prefix_44_4 s20.2.1)), (100000, bd 60 (e_exchangepointmake_Deck r49.2))] hB) ?_
    obtain ⟨hc51, h⟩ := chk_some h
    refine sr (c (mv hN (q 9)) rfl (c (fo 1011 0 [0] hN underlying46 0 tyS44 (q 11)) rfl (c (la hN 46 tyS44 (q 62)) rfl (c (OpJ.buildSlice underlying49 tyS44 tyZD44 (by rfl) (by decide) (by decide) (Opds.cons (q 63) Opds.nil) (by kernel_rfl) (es := ([(e_api_Prefix x48.fPrefix)] : List D)) (by rfl) (by rfl) (by kernel_rfl) (by simp) (L rfl)) rfl (cg (apd hB underlying49 tyE44 1065 e_api_Prefix s20.2.1 ([x48.fPrefix] : List api_Prefix) hc51 (L rfl) (q 61) (q 64)) rfl (c (OpJ.assign (L rfl) (q 65)) rfl cn)))))) ?_
    refine sr (c (mv hN (q 13)) rfl (c (OpJ.eqlI (L rfl) (q 66) (Opd.int .i64 (0))) rfl cn)) ?_
    refine gh [(1, _), (5, _), (6, _), (9, _), (12, _), (42, _), (43, _), (44, _), (67, _)] [(500, some _), (501, some _), (1012, some _), (1065, some _), (3006, some _), (100000, some _)] hB rfl rfl (by rfl) ?_
    refine AWp.cut h (fun m54 : (List api_Prefix) => ([(1, (i6 a1)), (5, (pt 100000)), (6, (.sref 3006 6 0 p12.1.length)), (9, (.sref 3009 4 0 m54.length)), (42, (.sref 3006 6 0 p12.1.length)), (43, (i6 (p12.1.length : Int))), (44, (i6 s20.1))] : EL)) (fun m54 : (List api_Prefix) => ([(500, some (.know (globF 0 [82, 122, 123]))), (501, some (.know (globF 1 [77, 124, 125]))), (3006, some (we_api_Object_46_6 p12.1)), (3009, some (we_api_Prefix_44_4 m54)), (100000, bd 60 (e_exchangepointmake_Deck r49.2))] : OL)) (fun m54 h E' O' hmat => ?_) (fun j55 hjj55 h => ?_)
    ·apply blkQ_n
     apply seqQ_n
     refine AWp.ghost hmat ?_
     refine rg (c (add6 (L rfl) (q 44) (Opd.int .i64 (1))) rfl (c (mv hN (q 72)) rfl cn)) ?_
     obtain rfl := Option.some.inj h
     exact ⟨rfl, (mp [] _ _ hB)⟩
    ·refine AWp.cond rfl (fun hg56 => ?_) (fun hg56 => ?_)
     ·replace h := ite_t hg56 h
      obtain ⟨hc57, h⟩ := chk_some h
      refine rg (c (mv hN (q 9)) rfl (c (lb hN 44 _ _ tyS44 (At.here _) (q 12)) rfl (c (OpJ.buildSlice underlying49 tyS44 tyZD44 (by rfl) (by decide) (by decide) (Opds.cons (q 69) Opds.nil) (by kernel_rfl) (es := ([(e_api_Prefix r50.1)] : List D)) (by rfl) (by rfl) (by kernel_rfl) (by simp) (L rfl)) rfl (cg (apd hB underlying49 tyE44 1071 e_api_Prefix (s20.2.1 ++ ([x48.fPrefix] : List api_Prefix)) ([r50.1] : List api_Prefix) hc57 (L rfl) (q 68) (q 70)) rfl (c (OpJ.assign (L rfl) (q 71)) rfl cn))))) ?_
      exact hjj55 _ h _ _ (mp [(3009, 1071)] _ _ hB)
     ·replace h := ite_f hg56 h
      apply AWp.skip
      exact hjj55 _ h _ _ (mp [(3009, 1065)] _ _ hB)
   ·replace h := ite_f hg46 h
    apply AWp.exit
    apply seqQ_e
    obtain rfl := Option.some.inj h
    exact ⟨(fun hc => by cases hc), rfl, (mp [] _ _ hB)⟩
  ·obtain ⟨rfl, hmat⟩ := hR
   apply blkQ_hit
   apply seqQ_n
   refine AWp.ghost hmat ?_
   apply AWp.seq
   refine sr (c (mv hN (q 9)) rfl (c (OpJ.lenS underlying49 (L rfl) (q 73)) rfl (c (mv hN (Opd.int .i64 (0))) rfl cn))) ?_
   apply AWp.block
   obtain ⟨x191, hx192, h⟩ := bindS h
   refine lg (exchangepointlaw22_OriginStates_L2 a1 p12 p45) (fun s60 : Int => ([(1, (i6 a1)), (6, (qe_api_Object_6 p12.1)), (73, (.sref 3009 4 0 p45.length)), (74, (i6 (p45.length : Int))), (75, (i6 s60))] : EL)) (fun s60 : Int => ([(500, some (.know (globF 0 [82, 122, 123]))), (501, some (.know (globF 1 [77, 124, 125]))), (3009, some (we_api_Prefix_44_4 p45))] : OL)) (fun (x : (Unit) ⊕ (Unit)) e E' O' => match x with | (.inl _p) => e = .ret ∧ Mat B E' O' ([(4, (bo false))] : EL) ([(500, some (.know (globF 0 [82, 122, 123]))), (501, some (.know (globF 1 [77, 124, 125])))] : OL) | (.inr _p) => e = .exit 4 ∧ Mat B E' O' ([] : EL) ([(500, some (.know (globF 0 [82, 122, 123]))), (501, some (.know (globF 1 [77, 124, 125])))] : OL)) hx192 (Mat.trans (Mat.freezeP (n := 3006) (e := 46) (sz := 6) (es := p12.1.map e_api_Object) (Ts := [(6, (qe_api_Object_6 p12.1))]) (Bs := []) (by rfl) (TwT.cons (x := (.sref 3006 6 0 p12.1.length)) (by rfl) (FrzL.all (by first | rfl | (simp; done) | (simp; omega) | omega)) TwT.nil) TwB.nil) (mp [] _ _ hB)) (fun s60 y h => ?_) (fun e E' O' hR => ?_)
   ·unfold exchangepointlaw22_OriginStates_L2 at h
    refine sr (c (OpJ.lss (L rfl) (q 75) (q 74)) rfl cn) ?_
    apply AWp.seq
    refine AWp.cond rfl (fun hg149 => ?_) (fun hg149 => ?_)
    ·replace h := ite_t hg149 h
     apply AWp.skip
     apply seqQ_n
     apply AWp.seq
     apply AWp.block
     obtain ⟨x150, hx150, h⟩ := bindS h
     obtain ⟨x151, hx151, h⟩ := bindS h
     refine sr (c (OpJ.val (v' := (.ptr 3009 (s60.toNat * 4) [s60.toNat])) (by simp) (OpJ.indexS underlying49 tyS44 (idx_some hx150).1 (by have := idx_lt hx150; first | (simpa using this) | ((try simp only [List.length_map] at this); (try simp only [List.length_map]); omega)) (L rfl) (q 73) (q 75))) rfl (c (OpJ.loadR (e := 44) (sz := 4) tyS44 (get_map e_api_Prefix (idx_some hx151).2) (o := 0) (At.here _) (by rfl) (by rfl) (by rfl) (L rfl) (q 77)) rfl (cg (OpJ.alloc hB tyZ44 (nm := 1015) (by decide) (L rfl)) rfl (cg (sB tyS44 (q 15) (q 78)) rfl cn)))) ?_
     obtain ⟨r152, hr152, h⟩ := bindS h
     refine sr (c (mv hN (q 1)) rfl (c (mv hN (q 1)) rfl (cg (cf hB fnOk8 (exchangepointmake_Mod_ac a1 (6 : Int) r152 hr152) (L rfl) (OpdL.cons (q 80) (OpdL.cons (Opd.int .i64 (6)) OpdL.nil))) rfl (c (sub6 (L rfl) (q 81) (Opd.int .i64 (1))) rfl (c (OpJ.buildSlice underlying22 tyS3 tyZD3 (by rfl) (by decide) (by decide) (Opds.cons (q 79) (Opds.cons (q 82) Opds.nil)) (by kernel_rfl) (es := ([(.int .i64 a1), (.int .i64 (w64 (r152 - (1 : Int))))] : List D)) (by rfl) (by rfl) (by kernel_rfl) (by simp) (L rfl)) rfl (c (OpJ.val (v' := (i6 (([a1, (w64 (r152 - (1 : Int)))] : List Int).length : Int))) (by simp) (OpJ.lenD underlying22 (L rfl) (q 83))) rfl (c (mv hN (Opd.int .i64 (0))) rfl cn))))))) ?_
     apply AWp.block
     obtain ⟨x189, hx190, h⟩ := bindS h
     refine lg (exchangepointlaw22_OriginStates_L3 a1 p12 x151 r152) (fun s153 : Int => ([(1, (i6 a1)), (6, (qe_api_Object_6 p12.1)), (15, (pt 1015)), (73, (.sref 3009 4 0 p45.length)), (74, (i6 (p45.length : Int))), (75, (i6 s60)), (83, (qI_1 ([a1, (w64 (r152 - (1 : Int)))] : List Int))), (84, (i6 (([a1, (w64 (r152 - (1 : Int)))] : List Int).length : Int))), (85, (i6 s153))] : EL)) (fun s153 : Int => ([(500, some (.know (globF 0 [82, 122, 123]))), (501, some (.know (globF 1 [77, 124, 125]))), (1015, bd 44 (e_api_Prefix x151)), (3009, some (we_api_Prefix_44_4 p45))] : OL)) (fun (x : (Unit) ⊕ (Unit)) e E' O' => match x with | (.inl _p) => e = .ret ∧ Mat B E' O' ([(4, (bo false))] : EL) ([(500, some (.know (globF 0 [82, 122, 123]))), (501, some (.know (globF 1 [77, 124, 125])))] : OL) | (.inr _p) => e = .exit 6 ∧ Mat B E' O' ([(1, (i6 a1)), (6, (qe_api_Object_6 p12.1)), (73, (.sref 3009 4 0 p45.length)), (74, (i6 (p45.length : Int))), (75, (i6 s60))] : EL) ([(500, some (.know (globF 0 [82, 122, 123]))), (501, some (.know (globF 1 [77, 124, 125]))), (3009, some (we_api_Prefix_44_4 p45))] : OL)) hx190 (mp [] _ _ hB) (fun s153 y h => ?_) (fun e E' O' hR => ?_)
     ·unfold exchangepointlaw22_OriginStates_L3 at h
      refine sr (c (OpJ.lss (L rfl) (q 85) (q 84)) rfl cn) ?_
      apply AWp.seq
      refine AWp.cond rfl (fun hg178 => ?_) (fun hg178 => ?_)
      ·replace h := ite_t hg178 h
       apply AWp.skip
       apply seqQ_n
       apply AWp.seq
       apply AWp.block
       obtain ⟨x179, hx179, h⟩ := bindS h
       refine sr (c (OpJ.indexD underlying22 tyS3 (idx_some hx179).1 (get_map (eI .i64) (idx_some hx179).2) (L rfl) (q 83) (q 85)) rfl (c (OpJ.loadD tyS3 (by rfl) (by rfl) (L rfl) (q 87)) rfl (c (OpJ.assign (L rfl) (q 88)) rfl cn))) ?_
       obtain ⟨r180, hr180, h⟩ := bindS h
       refine sr (c (mv hN (q 6)) rfl (c (lb hN 44 _ _ tyS44 (At.here _) (q 15)) rfl (c (mv hN (q 17)) rfl (cg (cf hB fnOk15 (origin_State_ac p12.1 x151 x179 r180 hr180) (L rfl) (OpdL.cons (q 90) (OpdL.cons (q 91) (OpdL.cons (q 92) OpdL.nil)))) rfl (c (mv hN (q 93)) rfl (c (OpJ.extract (by rfl) rfl (L rfl) (q 89)) rfl (c (OpJ.extract (by rfl) rfl (L rfl) (q 89)) rfl (c (OpJ.assign (L rfl) (q 94)) rfl (c (OpJ.assign (L rfl) (q 95)) rfl cn))))))))) ?_
       obtain ⟨r181, hr181, h⟩ := bindS h
       refine sr (c (mv hN (q 6)) rfl (c (lb hN 44 _ _ tyS44 (At.here _) (q 15)) rfl (c (mv hN (q 17)) rfl (cg (cf hB fnOk16 (exchangepointref22_State_ac p12.1 x151 x179 r181 hr181) (L rfl) (OpdL.cons (q 97) (OpdL.cons (q 98) (OpdL.cons (q 99) OpdL.nil)))) rfl (c (mv hN (q 100)) rfl (c (OpJ.extract (by rfl) rfl (L rfl) (q 96)) rfl (c (OpJ.extract (by rfl) rfl (L rfl) (q 96)) rfl (c (OpJ.assign (L rfl) (q 101)) rfl (c (OpJ.assign (L rfl) (q 102)) rfl cn))))))))) ?_
       apply AWp.seq
       refine AWp.cut h (fun m184 : Bool => ([(1, (i6 a1)), (6, (qe_api_Object_6 p12.1)), (15, (pt 1015)), (73, (.sref 3009 4 0 p45.length)), (74, (i6 (p45.length : Int))), (75, (i6 s60)), (83, (qI_1 ([a1, (w64 (r152 - (1 : Int)))] : List Int))), (84, (i6 (([a1, (w64 (r152 - (1 : Int)))] : List Int).length : Int))), (85, (i6 s153)), (111, (bo m184))] : EL)) (fun m184 : Bool => ([(500, some (.know (globF 0 [82, 122, 123]))), (501, some (.know (globF 1 [77, 124, 125]))), (1015, bd 44 (e_api_Prefix x151)), (3009, some (we_api_Prefix_44_4 p45))] : OL)) (fun m184 h E' O' hmat => ?_) (fun j185 hjj185 h => ?_)
       ·apply seqQ_n
        refine AWp.ghost hmat ?_
        refine AWp.cond rfl (fun hg186 => ?_) (fun hg186 => ?_)
        ·replace h := ite_t hg186 h
         refine sr (c (OpJ.assign (L rfl) (Opd.bool false)) rfl cn) ?_
         apply AWp.ret
         apply blkQ_r
         apply seqQ_r
         obtain rfl := Option.some.inj h
         exact ⟨(fun hc => by cases hc), rfl, (mp [] _ _ hB)⟩
        ·replace h := ite_f hg186 h
         apply AWp.skip
         apply blkQ_n
         apply seqQ_n
         refine rg (c (add6 (L rfl) (q 85) (Opd.int .i64 (1))) rfl (c (mv hN (q 112)) rfl cn)) ?_
         obtain rfl := Option.some.inj h
         exact ⟨rfl, (mp [] _ _ hB)⟩
       ·rcases Bool.eq_false_or_eq_true (r180.1 != r181.1) with hg187 | hg187
        ·replace h := ite_t hg187 h
         refine rg (c (mv hN (q 18)) rfl (c (mv hN (q 20)) rfl (c (OpJ.neqI (L rfl) (q 103) (q 104)) rfl (c (OpJ.val (v' := .d (.bool true)) (by rw [hg187] <;> rfl) (mv hN (q 105))) rfl (cg (sU 106 (L rfl)) rfl (cg (sU 106 (L rfl)) rfl (cg (sU 106 (L rfl)) rfl (cg (sU 106 (L rfl)) rfl (c (OpJ.pickT (L rfl) (q 106) (Opd.bool true)) rfl cn))))))))) ?_
         exact hjj185 _ h _ _ (mp [] _ _ hB)
        ·replace h := ite_f hg187 h
         obtain ⟨r188, hr188, h⟩ := bindS h
         refine rg (c (mv hN (q 18)) rfl (c (mv hN (q 20)) rfl (c (OpJ.neqI (L rfl) (q 103) (q 104)) rfl (c (OpJ.val (v' := .d (.bool false)) (by rw [hg187] <;> rfl) (mv hN (q 105))) rfl (c (gd 106 (mv hN (q 19))) rfl (c (gd 106 (mv hN (q 21))) rfl (cg (gd 106 (cf hB fnOk17 (exchangepointref20_SameObjects_ac r180.2 r181.2 r188 hr188) (L rfl) (OpdL.cons (q 107) (OpdL.cons (q 108) OpdL.nil)))) rfl (c (gd 106 (OpJ.not (L rfl) (q 109))) rfl (c (OpJ.pickF (L rfl) (q 106) (q 110)) rfl cn))))))))) ?_
         exact hjj185 _ h _ _ (mp [] _ _ hB)
      ·replace h := ite_f hg178 h
       apply AWp.exit
       apply seqQ_e
       obtain rfl := Option.some.inj h
       exact ⟨(fun hc => by cases hc), rfl, (mp [] _ _ hB)⟩
     ·rcases x189 with _ | _
      ·obtain ⟨rfl, hmat⟩ := hR
       apply blkQ_r
       apply blkQ_r
       apply seqQ_r
       obtain rfl := Option.some.inj h
       exact ⟨(fun hc => by cases hc), rfl, (Mat.trans hmat (mp [] _ _ hB))⟩
      ·obtain ⟨rfl, hmat⟩ := hR
       apply blkQ_hit
       apply blkQ_n
       apply seqQ_n
       refine AWp.ghost hmat ?_
       refine rg (c (add6 (L rfl) (q 75) (Opd.int .i64 (1))) rfl (c (mv hN (q 113)) rfl cn)) ?_
       obtain rfl := Option.some.inj h
       exact ⟨rfl, (mp [] _ _ hB)⟩
    ·replace h := ite_f hg149 h
     apply AWp.exit
     apply seqQ_e
     obtain rfl := Option.some.inj h
     exact ⟨(fun hc => by cases hc), rfl, (mp [] _ _ hB)⟩
   ·rcases x191 with _ | _
    ·obtain ⟨rfl, hmat⟩ := hR
     apply blkQ_r
     apply seqQ_r
     obtain rfl := Option.some.inj h
     exact ⟨.inl rfl, _, _, (Mat.trans hmat (mp [] [(4, (bo false))] [(500, some (.know (globF 0 [82, 122, 123]))), (501, some (.know (globF 1 [77, 124, 125])))] hB)), [(bo false)], (Res.tmp (by rfl) (by rfl) Res.nil), rfl, by rfl, by rfl, by rfl⟩
    ·obtain ⟨rfl, hmat⟩ := hR
     apply blkQ_hit
     apply seqQ_n
     refine AWp.ghost hmat ?_
     apply AWp.seq
     obtain ⟨r193, hr193, h⟩ := bindS h
     refine AWp.region (oc (OpJ.callFn hB fnOk10 (exchangepointlaw22_awake_ac  r193 hr193) [(500, 500), (501, 501)] (by kernel_rfl) (L rfl) (by kernel_rfl) OpdL.nil)
      (oc (OpJ.assign (L rfl) (ot 114 (bo r193)))
      (OpJs.nil))) (by rfl) (by rfl) ?_
     apply seqQ_n
     refine AWp.ghost (mp [] [(4, (bo r193))] [(500, some (.know (globF 0 [82, 122, 123]))), (501, some (.know (globF 1 [77, 124, 125])))] hB) ?_
     apply AWp.ret
     obtain rfl := Option.some.inj h
     exact ⟨.inl rfl, _, _, (kp [(4, _)] [(500, some _), (501, some _)] hB rfl rfl (by rfl)), [(bo r193)], (Res.tmp (by rfl) (by rfl) Res.nil), rfl, by rfl, by rfl, by rfl⟩
end Go.Proofs.YtgfoabcickjphaaDoor

/- Printed by gen.py: the Go functions as plain functions, and that the code does what they say. -/
import Derived.Test.YtgfoabcickjphaaDoorChecked
import Derived.Test.YtgfoabcickjphaaDoorVcYB
import Derived.Test.YtgfoabcickjphaaDoorVcZ
import Derived.KernelRfl
import Derived.Test.YtgfoabcickjphaaDoorVcMD
import Derived.Test.YtgfoabcickjphaaDoorVcMQ
import Derived.Test.YtgfoabcickjphaaDoorVcSG
import Derived.Test.YtgfoabcickjphaaDoorFnsC
import Derived.Test.YtgfoabcickjphaaDoorExt
import Derived.Test.YtgfoabcickjphaaDoorVcGl
import Derived.Test.YtgfoabcickjphaaDoorVcWS
namespace Go.Proofs.YtgfoabcickjphaaDoor
open Go Go.Vc
open Tryd
set_option maxHeartbeats 4000000
set_option maxRecDepth 100000
noncomputable def origin_Payloads_L0 (a0 : (List api_Cert)) (a1 : (List api_Signed)) (a3 : Int) (r2 : (List Bool)) (s3 : Int × (List api_Object)) : Option ((((List api_Object))) ⊕ (Int × (List api_Object))) :=
 (if (decide (s3.1 < (a1.length : Int))) = true then
 (idx a1 s3.1).bind fun x24 =>
 (origin_explain a0 r2 x24 a3).bind fun r25 =>
 jn (fun m28 : (List api_Object) =>
 some (.inr ((w64 (s3.1 + (1 : Int))), m28))) (fun j29 =>
 (if (r25 == (0 : Int)) = true then
 chk (decide ((s3.2 ++ x24.fObjects).length ≤ LIM)) <|
 j29 (s3.2 ++ x24.fObjects)
 else
 j29 s3.2))
 else
 some (.inl s3.2))
noncomputable def origin_Payloads (a0 : (List api_Cert)) (a1 : (List api_Signed)) (a2 : (List Int)) (a3 : Int) : Option ((List api_Object) × Int) :=
 (if ((decide ((512 : Int) < (a0.length : Int))) || (decide ((512 : Int) < (a1.length : Int)))) = true then
 some (([] : List api_Object), (3 : Int))
 else
 (origin_Trusted a0 a2 a3).bind fun r2 =>
 (loop (origin_Payloads_L0 a0 a1 a3 r2) ((0 : Int), ([] : List api_Object))).bind fun p22 =>
 (irr_Ordered p22).bind fun r34 =>
 (if (decide ((512 : Int) < (r34.length : Int))) = true then
 some (([] : List api_Object), (3 : Int))
 else
 some (r34, (0 : Int))))
theorem origin_Payloads_ac (a0 : (List api_Cert)) (a1 : (List api_Signed)) (a2 : (List Int)) (a3 : Int) (r : (List api_Object) × Int) (h : origin_Payloads a0 a1 a2 a3 = some r) : AC Tryd.prog 27 [(.d (.list 6 (a0.map e_api_Cert))), (.d (.list 5 (a1.map e_api_Signed))), (.d (.list 1 (a2.map (eI .i64)))), (.d (.int .i64 a3))] [(500, (.know (globF 0 [82, 122, 123]))), (501, (.know (globF 1 [77, 124, 125])))] (.tup [(.d (.list 6 (r.1.map e_api_Object))), (.d (.int .i64 r.2))]) [(500, some (.know (globF 0 [82, 122, 123]))), (501, some (.know (globF 1 [77, 124, 125])))] := by
 refine AC.of_code2 Tryd.func27 rfl rfl (Nat.le_of_ble_eq_true (by rfl)) fun B hB hN => ?_
 have L {d : Nat} (h : Nat.blt d Tryd.f27.ntmps = true) : d < B.N := ltN hN h
 delta origin_Payloads at h
 refine sr (c (OpJ.assign (L rfl) Opd.nils) rfl (c (OpJ.assign (L rfl) (Opd.int .i64 (0))) rfl cn)) ?_
 apply AWp.seq
 refine sr (c (mv hN (q 0)) rfl (c (OpJ.val (v' := (i6 (a0.length : Int))) (by simp) (OpJ.lenD underlying30 (L rfl) (q 14))) rfl (c (OpJ.gtr (L rfl) (q 15) (Opd.int .i64 (512))) rfl (c (mv hN (q 16)) rfl (c (oq hN 17 (mv hN (q 1)) (OptL.keep (by rfl) OptL.nil) (GuardV.plain _)) rfl (c (oq hN 17 (OpJ.val (v' := (i6 (a1.length : Int))) (by simp) (OpJ.lenD underlying76 (L rfl) (q 18))) (OptL.opt OptL.nil) (GuardV.plain _)) rfl (c (oq hN 17 (OpJ.gtr (L rfl) (q 19) (Opd.int .i64 (512))) (OptL.opt OptL.nil) (GuardV.plain _)) rfl (c (OpJ.pickOr rfl (L rfl) (q 17) (q 20)) rfl cn)))))))) ?_
 refine AWp.cond rfl (fun hg1 => ?_) (fun hg1 => ?_)
 ·replace h := ite_t hg1 h
  refine sr (c (OpJ.assign (L rfl) Opd.nils) rfl (c (OpJ.assign (L rfl) (Opd.int .i64 (3))) rfl cn)) ?_
  apply AWp.ret
  apply seqQ_r
  obtain rfl := Option.some.inj h
  exact ⟨.inl rfl, _, _, (Mat.trans (Mat.coeP (Ts := [(8, (qe_api_Object_6 ([] : List api_Object)))]) (Bs := []) (TwT.cons (x := .nils) (by rfl) (Tw.leaf ⟨_, (Co.nils 6), rfl⟩) TwT.nil) TwB.nil) (mp [] [(8, (qe_api_Object_6 ([] : List api_Object))), (9, (i6 (3 : Int)))] [(500, some (.know (globF 0 [82, 122, 123]))), (501, some (.know (globF 1 [77, 124, 125])))] hB)), [(qe_api_Object_6 ([] : List api_Object)), (i6 (3 : Int))], (Res.tmp (by rfl) (by rfl) (Res.tmp (by rfl) (by rfl) Res.nil)), rfl, by rfl, by rfl, by rfl⟩
 ·replace h := ite_f hg1 h
  apply AWp.skip
  apply seqQ_n
  apply AWp.seq
  obtain ⟨r2, hr2, h⟩ := bindS h
  refine AWp.region (oc (mv hN (ot 0 (qe_api_Cert_6 a0)))
   (oc (mv hN (ot 2 (qI_1 a2)))
   (oc (mv hN (ot 3 (i6 a3)))
   (oc (OpJ.callFn hB fnOk9 (origin_Trusted_ac a0 a2 a3 r2 hr2) [(500, 500), (501, 501)] (by kernel_rfl) (L rfl) (by kernel_rfl) (OpdL.cons (ot 22 (qe_api_Cert_6 a0)) (OpdL.cons (ot 23 (qI_1 a2)) (OpdL.cons (ot 24 (i6 a3)) OpdL.nil))))
   (oc (OpJ.assign (L rfl) (ot 25 (.d (.list 1 (r2.map eB)))))
   (OpJs.nil)))))) (by rfl) (by rfl) ?_
  apply seqQ_n
  refine AWp.ghost (mp [] [(0, (qe_api_Cert_6 a0)), (1, (qe_api_Signed_5 a1)), (3, (i6 a3)), (10, (.d (.list 1 (r2.map eB))))] [(500, some (.know (globF 0 [82, 122, 123]))), (501, some (.know (globF 1 [77, 124, 125])))] hB) ?_
  refine sr (c (OpJ.assign (L rfl) Opd.nils) rfl cn) ?_
  apply AWp.seq
  refine sr (c (mv hN (q 1)) rfl (c (OpJ.val (v' := (i6 (a1.length : Int))) (by simp) (OpJ.lenD underlying76 (L rfl) (q 26))) rfl (c (mv hN (Opd.int .i64 (0))) rfl cn))) ?_
  apply AWp.block
  obtain ⟨p22, hx33, h⟩ := bindS h
  refine lg (origin_Payloads_L0 a0 a1 a3 r2) (fun s3 : Int × (List api_Object) => ([(0, (qe_api_Cert_6 a0)), (3, (i6 a3)), (10, (.d (.list 1 (r2.map eB)))), (11, (.sref 3011 6 0 s3.2.length)), (26, (qe_api_Signed_5 a1)), (27, (i6 (a1.length : Int))), (28, (i6 s3.1))] : EL)) (fun s3 : Int × (List api_Object) => ([(500, some (.know (globF 0 [82, 122, 123]))), (501, some (.know (globF 1 [77, 124, 125]))), (3011, some (we_api_Object_46_6 s3.2))] : OL)) (fun (p22 : ((List api_Object))) e E' O' => e = .exit 0 ∧ Mat B E' O' ([(11, (.sref 3011 6 0 p22.length))] : EL) ([(500, some (.know (globF 0 [82, 122, 123]))), (501, some (.know (globF 1 [77, 124, 125]))), (3011, some (we_api_Object_46_6 p22))] : OL)) hx33 (Mat.trans (Mat.beginP (n := 3011) (e := 46) (sz := 6) (Ts := [(11, (.sref 3011 6 0 0))]) (Bs := []) hB (by decide) (by rfl) (by decide) (TwT.cons (x := .nils) (by rfl) (Tw.leaf ⟨rfl, rfl⟩) TwT.nil) TwB.nil) (mp [] _ _ hB)) (fun s3 y h => ?_) (fun e E' O' hR => ?_)
  ·unfold origin_Payloads_L0 at h
   refine sr (c (OpJ.lss (L rfl) (q 28) (q 27)) rfl cn) ?_
   apply AWp.seq
   refine AWp.cond rfl (fun hg23 => ?_) (fun hg23 => ?_)
   ·replace h := ite_t hg23 h
    apply AWp.skip
    apply seqQ_n
    apply AWp.seq
    apply AWp.block
    obtain ⟨x24, hx24, h⟩ := bindS h
    refine sr (c (OpJ.indexD underlying76 tyS75 (idx_some hx24).1 (get_map e_api_Signed (idx_some hx24).2) (L rfl) (q 26) (q 28)) rfl (c (OpJ.loadD tyS75 (by rfl) (by rfl) (L rfl) (q 30)) rfl (cg (OpJ.alloc hB tyZ75 (nm := 1013) (by decide) (L rfl)) rfl (cg (sB tyS75 (q 13) (q 31)) rfl cn)))) ?_
    obtain ⟨r25, hr25, h⟩ := bindS h
    refine sr (c (mv hN (q 0)) rfl (c (mv hN (q 10)) rfl (c (lb hN 75 _ _ tyS75 (At.here _) (q 13)) rfl (c (mv hN (q 3)) rfl (cg (cf hB fnOk49 (origin_explain_ac a0 r2 x24 a3 r25 hr25) (L rfl) (OpdL.cons (q 32) (OpdL.cons (q 33) (OpdL.cons (q 34) (OpdL.cons (q 35) OpdL.nil))))) rfl (c (OpJ.eqlI (L rfl) (q 36) (Opd.int .i64 (0))) rfl cn)))))) ?_
    refine gh [(0, _), (3, _), (10, _), (11, _), (13, _), (26, _), (27, _), (28, _), (37, _)] [(500, some _), (501, some _), (1013, some _), (3011, some _)] hB rfl rfl (by rfl) ?_
    refine AWp.cut h (fun m28 : (List api_Object) => ([(0, (qe_api_Cert_6 a0)), (3, (i6 a3)), (10, (.d (.list 1 (r2.map eB)))), (11, (.sref 3011 6 0 m28.length)), (26, (qe_api_Signed_5 a1)), (27, (i6 (a1.length : Int))), (28, (i6 s3.1))] : EL)) (fun m28 : (List api_Object) => ([(500, some (.know (globF 0 [82, 122, 123]))), (501, some (.know (globF 1 [77, 124, 125]))), (3011, some (we_api_Object_46_6 m28))] : OL)) (fun m28 h E' O' hmat => ?_) (fun j29 hjj29 h => ?_)
    ·apply blkQ_n
     apply seqQ_n
     refine AWp.ghost hmat ?_
     refine rg (c (add6 (L rfl) (q 28) (Opd.int .i64 (1))) rfl (c (mv hN (q 42)) rfl cn)) ?_
     obtain rfl := Option.some.inj h
     exact ⟨rfl, (mp [] _ _ hB)⟩
    ·refine AWp.cond rfl (fun hg30 => ?_) (fun hg30 => ?_)
     ·replace h := ite_t hg30 h
      obtain ⟨hc31, h⟩ := chk_some h
      refine rg (c (mv hN (q 11)) rfl (c (fo 1013 4 [4] hN underlying75 4 tyS38 (q 13)) rfl (c (la hN 75 tyS38 (q 39)) rfl (cg (apd hB underlying38 tyE46 1041 e_api_Object s3.2 x24.fObjects hc31 (L rfl) (q 38) (q 40)) rfl (c (OpJ.assign (L rfl) (q 41)) rfl cn))))) ?_
      exact hjj29 _ h _ _ (mp [(3011, 1041)] _ _ hB)
     ·replace h := ite_f hg30 h
      apply AWp.skip
      exact hjj29 _ h _ _ (mp [] _ _ hB)
   ·replace h := ite_f hg23 h
    apply AWp.exit
    apply seqQ_e
    obtain rfl := Option.some.inj h
    exact ⟨(fun hc => by cases hc), rfl, (mp [] _ _ hB)⟩
  ·obtain ⟨rfl, hmat⟩ := hR
   apply blkQ_hit
   apply seqQ_n
   refine AWp.ghost hmat ?_
   apply AWp.seq
   apply AWp.seq
   refine AWp.ghost (Mat.freezeP (n := 3011) (e := 46) (sz := 6) (es := p22.map e_api_Object) (Ts := [(11, (qe_api_Object_6 p22))]) (Bs := []) (by rfl) (TwT.cons (x := (.sref 3011 6 0 p22.length)) (by rfl) (FrzL.all (by first | rfl | (simp; done) | (simp; omega) | omega)) TwT.nil) TwB.nil) ?_
   obtain ⟨r34, hr34, h⟩ := bindS h
   refine rg (c (mv hN (q 11)) rfl (cg (cf hB fnOk50 (irr_Ordered_ac p22 r34 hr34) (L rfl) (OpdL.cons (q 43) OpdL.nil)) rfl (c (OpJ.assign (L rfl) (q 44)) rfl cn))) ?_
   apply seqQ_n
   refine sr (c (mv hN (q 11)) rfl (c (OpJ.val (v' := (i6 (r34.length : Int))) (by simp) (OpJ.lenD underlying38 (L rfl) (q 45))) rfl (c (OpJ.gtr (L rfl) (q 46) (Opd.int .i64 (512))) rfl cn))) ?_
   refine AWp.cond rfl (fun hg35 => ?_) (fun hg35 => ?_)
   ·replace h := ite_t hg35 h
    refine sr (c (OpJ.assign (L rfl) Opd.nils) rfl (c (OpJ.assign (L rfl) (Opd.int .i64 (3))) rfl cn)) ?_
    apply AWp.ret
    apply seqQ_r
    obtain rfl := Option.some.inj h
    exact ⟨.inl rfl, _, _, (Mat.trans (Mat.coeP (Ts := [(8, (qe_api_Object_6 ([] : List api_Object)))]) (Bs := []) (TwT.cons (x := .nils) (by rfl) (Tw.leaf ⟨_, (Co.nils 6), rfl⟩) TwT.nil) TwB.nil) (mp [] [(8, (qe_api_Object_6 ([] : List api_Object))), (9, (i6 (3 : Int)))] [(500, some (.know (globF 0 [82, 122, 123]))), (501, some (.know (globF 1 [77, 124, 125])))] hB)), [(qe_api_Object_6 ([] : List api_Object)), (i6 (3 : Int))], (Res.tmp (by rfl) (by rfl) (Res.tmp (by rfl) (by rfl) Res.nil)), rfl, by rfl, by rfl, by rfl⟩
   ·replace h := ite_f hg35 h
    apply AWp.skip
    apply seqQ_n
    refine sr (c (mv hN (q 11)) rfl (c (OpJ.assign (L rfl) (q 48)) rfl (c (OpJ.assign (L rfl) (Opd.int .i64 (0))) rfl cn))) ?_
    apply AWp.ret
    obtain rfl := Option.some.inj h
    exact ⟨.inl rfl, _, _, (kp [(8, _), (9, _)] [(500, some _), (501, some _)] hB rfl rfl (by rfl)), [(qe_api_Object_6 r34), (i6 0)], (Res.tmp (by rfl) (by rfl) (Res.tmp (by rfl) (by rfl) Res.nil)), rfl, by rfl, by rfl, by rfl⟩
noncomputable def prefix_Contains (a0 : api_Prefix) (a1 : api_Addr) : Option (Bool) :=
 jn (fun m5 : Bool =>
 some m5) (fun j6 =>
 (if ((a0.fAddr.fV6 == a1.fV6) && (decide ((0 : Int) ≤ a0.fLen))) = true then
 (prefix_width a1).bind fun r8 =>
 (if (decide (a0.fLen ≤ r8)) = true then
 (prefix_first a1 a0.fLen).bind fun r10 =>
 j6 ((r10.fV6 == a0.fAddr.fV6) && ((r10.fHi == a0.fAddr.fHi) && ((r10.fLo == a0.fAddr.fLo) && true)))
 else
 j6 false)
 else
 j6 false))
theorem prefix_Contains_ac (a0 : api_Prefix) (a1 : api_Addr) (r : Bool) (h : prefix_Contains a0 a1 = some r) : AC Tryd.prog 51 [(.d (e_api_Prefix a0)), (.d (e_api_Addr a1))] [] (.d (.bool r)) [] := by
 refine AC.of_code2 Tryd.func51 rfl rfl (Nat.le_of_ble_eq_true (by rfl)) fun B hB hN => ?_
 have L {d : Nat} (h : Nat.blt d Tryd.f51.ntmps = true) : d < B.N := ltN hN h
 delta prefix_Contains at h
 refine sr (cg (OpJ.box hB (nm := 1002) (by decide) (by simp) rfl (L rfl) (q 0)) rfl (cg (OpJ.box hB (nm := 1003) (by decide) (by simp) rfl (L rfl) (q 1)) rfl (c (OpJ.assign (L rfl) (Opd.bool false)) rfl cn))) ?_
 apply AWp.seq
 refine AWp.cut h (fun m5 : Bool => ([(4, (bo m5))] : EL)) (fun m5 : Bool => ([] : OL)) (fun m5 h E' O' hmat => ?_) (fun j6 hjj6 h => ?_)
 ·apply seqQ_n
  refine AWp.ghost hmat ?_
  apply AWp.ret
  obtain rfl := Option.some.inj h
  exact ⟨.inl rfl, _, _, (kp [(4, _)] [] hB rfl rfl (by rfl)), [(bo m5)], (Res.tmp (by rfl) (by rfl) Res.nil), rfl, by rfl, by rfl, by rfl⟩
 ·rcases Bool.eq_false_or_eq_true ((a0.fAddr.fV6 == a1.fV6) && (decide ((0 : Int) ≤ a0.fLen))) with hg7 | hg7
  ·replace h := ite_t hg7 h
   obtain ⟨r8, hr8, h⟩ := bindS h
   rcases Bool.eq_false_or_eq_true (decide (a0.fLen ≤ r8)) with hg9 | hg9
   ·replace h := ite_t hg9 h
    obtain ⟨r10, hr10, h⟩ := bindS h
    refine dr (c (fo 1002 0 [0] hN underlying44 0 tyS42 (q 2)) rfl (c (fo 1002 0 [0, 0] hN underlying42 0 tyS4 (q 5)) rfl (c (lb hN 44 _ _ tyS4 (At.dst1 (by rfl) (by rfl) (ad _) (by first | rfl | omega)) (q 6)) rfl (c (fo 1003 0 [0] hN underlying42 0 tyS4 (q 3)) rfl (c (la hN 42 tyS4 (q 8)) rfl (c (OpJ.eqlB underlying4 (L rfl) (q 7) (q 9)) rfl (c (mv hN (q 10)) rfl (c (oq hN 11 (fo 1002 3 [1] hN underlying44 3 tyS3 (q 2)) (OptL.keep (by rfl) OptL.nil) (GuardV.plain _)) rfl (c (oq hN 11 (la hN 44 tyS3 (q 12)) (OptL.opt OptL.nil) (GuardV.plain _)) rfl (c (oq hN 11 (OpJ.geq (L rfl) (q 13) (Opd.int .i64 (0))) (OptL.opt OptL.nil) (GuardV.plain _)) rfl (c (OpJ.pickAnd rfl (L rfl) (q 11) (q 14)) rfl (c (OpJ.val (v' := .d (.bool true)) (by rw [hg7] <;> rfl) (mv hN (q 15))) rfl (c (gd 16 (fo 1002 3 [1] hN underlying44 3 tyS3 (q 2))) rfl (c (gd 16 (la hN 44 tyS3 (q 17))) rfl (c (gd 16 (lb hN 42 _ _ tyS42 (At.here _) (q 3))) rfl (cg (gd 16 (cf hB fnOk63 (prefix_width_ac a1 r8 hr8) (L rfl) (OpdL.cons (q 19) OpdL.nil))) rfl (c (gd 16 (OpJ.leq (L rfl) (q 18) (q 20))) rfl (c (OpJ.pickT (L rfl) (q 16) (q 21)) rfl (c (OpJ.val (v' := .d (.bool true)) (by rw [hg9] <;> rfl) (mv hN (q 22))) rfl (c (gd 23 (lb hN 42 _ _ tyS42 (At.here _) (q 3))) rfl (c (gd 23 (fo 1002 3 [1] hN underlying44 3 tyS3 (q 2))) rfl (c (gd 23 (la hN 44 tyS3 (q 25))) rfl (cg (gd 23 (cf hB fnOk64 (prefix_first_ac a1 a0.fLen r10 hr10) (L rfl) (OpdL.cons (q 24) (OpdL.cons (q 26) OpdL.nil)))) rfl (c (gd 23 (fo 1002 0 [0] hN underlying44 0 tyS42 (q 2))) rfl (c (gd 23 (la hN 44 tyS42 (q 28))) rfl (c (gd 23 (OpJ.eqlD (h := 2) (FitE.st underlying42 rfl held42 (FitF.cons (x := (.bool r10.fV6)) (y := (.bool a0.fAddr.fV6)) (by decide) rfl tyS4 ⟨rfl, rfl⟩ ⟨rfl, rfl⟩ (FitE.bool (h := 0) r10.fV6 a0.fAddr.fV6 underlying4) (FitF.cons (x := (.int .u64 r10.fHi)) (y := (.int .u64 a0.fAddr.fHi)) (by decide) rfl tyS40 ⟨rfl, rfl⟩ ⟨rfl, rfl⟩ (FitE.int (h := 0) r10.fHi a0.fAddr.fHi underlying40) (FitF.cons (x := (.int .u64 r10.fLo)) (y := (.int .u64 a0.fAddr.fLo)) (by decide) rfl tyS40 ⟨rfl, rfl⟩ ⟨rfl, rfl⟩ (FitE.int (h := 0) r10.fLo a0.fAddr.fLo underlying40) FitF.nil)))) eqg42 ⟨rfl, rfl⟩ (by rfl) (L rfl) (q 27) (q 29))) rfl (c (OpJ.pickT (L rfl) (q 23) (q 30)) rfl (c (OpJ.assign (L rfl) (q 31)) rfl cn)))))))))))))))))))))))))))) (by kernel_rfl) (by kernel_rfl) ?_
    exact hjj6 _ h _ _ (mp [] _ _ hB)
   ·replace h := ite_f hg9 h
    refine dr (c (fo 1002 0 [0] hN underlying44 0 tyS42 (q 2)) rfl (c (fo 1002 0 [0, 0] hN underlying42 0 tyS4 (q 5)) rfl (c (lb hN 44 _ _ tyS4 (At.dst1 (by rfl) (by rfl) (ad _) (by first | rfl | omega)) (q 6)) rfl (c (fo 1003 0 [0] hN underlying42 0 tyS4 (q 3)) rfl (c (la hN 42 tyS4 (q 8)) rfl (c (OpJ.eqlB underlying4 (L rfl) (q 7) (q 9)) rfl (c (mv hN (q 10)) rfl (c (oq hN 11 (fo 1002 3 [1] hN underlying44 3 tyS3 (q 2)) (OptL.keep (by rfl) OptL.nil) (GuardV.plain _)) rfl (c (oq hN 11 (la hN 44 tyS3 (q 12)) (OptL.opt OptL.nil) (GuardV.plain _)) rfl (c (oq hN 11 (OpJ.geq (L rfl) (q 13) (Opd.int .i64 (0))) (OptL.opt OptL.nil) (GuardV.plain _)) rfl (c (OpJ.pickAnd rfl (L rfl) (q 11) (q 14)) rfl (c (OpJ.val (v' := .d (.bool true)) (by rw [hg7] <;> rfl) (mv hN (q 15))) rfl (c (gd 16 (fo 1002 3 [1] hN underlying44 3 tyS3 (q 2))) rfl (c (gd 16 (la hN 44 tyS3 (q 17))) rfl (c (gd 16 (lb hN 42 _ _ tyS42 (At.here _) (q 3))) rfl (cg (gd 16 (cf hB fnOk63 (prefix_width_ac a1 r8 hr8) (L rfl) (OpdL.cons (q 19) OpdL.nil))) rfl (c (gd 16 (OpJ.leq (L rfl) (q 18) (q 20))) rfl (c (OpJ.pickT (L rfl) (q 16) (q 21)) rfl (c (OpJ.val (v' := .d (.bool false)) (by rw [hg9] <;> rfl) (mv hN (q 22))) rfl (cg (sU 23 (L rfl)) rfl (cg (sU 23 (L rfl)) rfl (cg (sU 23 (L rfl)) rfl (cg (sU 23 (L rfl)) rfl (cg (sU 23 (L rfl)) rfl (cg (sU 23 (L rfl)) rfl (cg (sU 23 (L rfl)) rfl (c (OpJ.pickF (L rfl) (q 23) (Opd.bool false)) rfl (c (OpJ.assign (L rfl) (q 31)) rfl cn)))))))))))))))))))))))))))) (by kernel_rfl) (by kernel_rfl) ?_
    exact hjj6 _ h _ _ (mp [] _ _ hB)
  ·replace h := ite_f hg7 h
   refine dr (c (fo 1002 0 [0] hN underlying44 0 tyS42 (q 2)) rfl (c (fo 1002 0 [0, 0] hN underlying42 0 tyS4 (q 5)) rfl (c (lb hN 44 _ _ tyS4 (At.dst1 (by rfl) (by rfl) (ad _) (by first | rfl | omega)) (q 6)) rfl (c (fo 1003 0 [0] hN underlying42 0 tyS4 (q 3)) rfl (c (la hN 42 tyS4 (q 8)) rfl (c (OpJ.eqlB underlying4 (L rfl) (q 7) (q 9)) rfl (c (mv hN (q 10)) rfl (c (oq hN 11 (fo 1002 3 [1] hN underlying44 3 tyS3 (q 2)) (OptL.keep (by rfl) OptL.nil) (GuardV.plain _)) rfl (c (oq hN 11 (la hN 44 tyS3 (q 12)) (OptL.opt OptL.nil) (GuardV.plain _)) rfl (c (oq hN 11 (OpJ.geq (L rfl) (q 13) (Opd.int .i64 (0))) (OptL.opt OptL.nil) (GuardV.plain _)) rfl (c (OpJ.pickAnd rfl (L rfl) (q 11) (q 14)) rfl (c (OpJ.val (v' := .d (.bool false)) (by rw [hg7] <;> rfl) (mv hN (q 15))) rfl (cg (sU 16 (L rfl)) rfl (cg (sU 16 (L rfl)) rfl (cg (sU 16 (L rfl)) rfl (cg (sU 16 (L rfl)) rfl (cg (sU 16 (L rfl)) rfl (c (OpJ.pickF (L rfl) (q 16) (Opd.bool false)) rfl (c (mv hN (q 22)) rfl (cg (sU 23 (L rfl)) rfl (cg (sU 23 (L rfl)) rfl (cg (sU 23 (L rfl)) rfl (cg (sU 23 (L rfl)) rfl (cg (sU 23 (L rfl)) rfl (cg (sU 23 (L rfl)) rfl (cg (sU 23 (L rfl)) rfl (c (OpJ.pickF (L rfl) (q 23) (Opd.bool false)) rfl (c (OpJ.assign (L rfl) (q 31)) rfl cn)))))))))))))))))))))))))))) (by kernel_rfl) (by kernel_rfl) ?_
   exact hjj6 _ h _ _ (mp [] _ _ hB)
noncomputable def prefix_Covers (a0 : api_Prefix) (a1 : api_Prefix) : Option (Bool) :=
 jn (fun m3 : Bool =>
 some m3) (fun j4 =>
 (if (decide (a0.fLen ≤ a1.fLen)) = true then
 (prefix_Contains a0 a1.fAddr).bind fun r6 =>
 j4 r6
 else
 j4 false))
theorem prefix_Covers_ac (a0 : api_Prefix) (a1 : api_Prefix) (r : Bool) (h : prefix_Covers a0 a1 = some r) : AC Tryd.prog 33 [(.d (e_api_Prefix a0)), (.d (e_api_Prefix a1))] [] (.d (.bool r)) [] := by
 refine AC.of_code2 Tryd.func33 rfl rfl (Nat.le_of_ble_eq_true (by rfl)) fun B hB hN => ?_
 have L {d : Nat} (h : Nat.blt d Tryd.f33.ntmps = true) : d < B.N := ltN hN h
 delta prefix_Covers at h
 refine sr (cg (OpJ.box hB (nm := 1002) (by decide) (by simp) rfl (L rfl) (q 0)) rfl (cg (OpJ.box hB (nm := 1003) (by decide) (by simp) rfl (L rfl) (q 1)) rfl (c (OpJ.assign (L rfl) (Opd.bool false)) rfl cn))) ?_
 apply AWp.seq
 refine AWp.cut h (fun m3 : Bool => ([(4, (bo m3))] : EL)) (fun m3 : Bool => ([] : OL)) (fun m3 h E' O' hmat => ?_) (fun j4 hjj4 h => ?_)
 ·apply seqQ_n
  refine AWp.ghost hmat ?_
  apply AWp.ret
  obtain rfl := Option.some.inj h
  exact ⟨.inl rfl, _, _, (kp [(4, _)] [] hB rfl rfl (by rfl)), [(bo m3)], (Res.tmp (by rfl) (by rfl) Res.nil), rfl, by rfl, by rfl, by rfl⟩
 ·rcases Bool.eq_false_or_eq_true (decide (a0.fLen ≤ a1.fLen)) with hg5 | hg5
  ·replace h := ite_t hg5 h
   obtain ⟨r6, hr6, h⟩ := bindS h
   refine rg (c (fo 1003 3 [1] hN underlying44 3 tyS3 (q 3)) rfl (c (la hN 44 tyS3 (q 5)) rfl (c (fo 1002 3 [1] hN underlying44 3 tyS3 (q 2)) rfl (c (la hN 44 tyS3 (q 7)) rfl (c (OpJ.geq (L rfl) (q 6) (q 8)) rfl (c (OpJ.val (v' := .d (.bool true)) (by rw [hg5] <;> rfl) (mv hN (q 9))) rfl (c (gd 10 (lb hN 44 _ _ tyS44 (At.here _) (q 2))) rfl (c (gd 10 (fo 1003 0 [0] hN underlying44 0 tyS42 (q 3))) rfl (c (gd 10 (la hN 44 tyS42 (q 12))) rfl (cg (gd 10 (cf hB fnOk51 (prefix_Contains_ac a0 a1.fAddr r6 hr6) (L rfl) (OpdL.cons (q 11) (OpdL.cons (q 13) OpdL.nil)))) rfl (c (OpJ.pickT (L rfl) (q 10) (q 14)) rfl (c (OpJ.assign (L rfl) (q 15)) rfl cn)))))))))))) ?_
   exact hjj4 _ h _ _ (mp [] _ _ hB)
  ·replace h := ite_f hg5 h
   refine rg (c (fo 1003 3 [1] hN underlying44 3 tyS3 (q 3)) rfl (c (la hN 44 tyS3 (q 5)) rfl (c (fo 1002 3 [1] hN underlying44 3 tyS3 (q 2)) rfl (c (la hN 44 tyS3 (q 7)) rfl (c (OpJ.geq (L rfl) (q 6) (q 8)) rfl (c (OpJ.val (v' := .d (.bool false)) (by rw [hg5] <;> rfl) (mv hN (q 9))) rfl (cg (sU 10 (L rfl)) rfl (cg (sU 10 (L rfl)) rfl (cg (sU 10 (L rfl)) rfl (cg (sU 10 (L rfl)) rfl (c (OpJ.pickF (L rfl) (q 10) (Opd.bool false)) rfl (c (OpJ.assign (L rfl) (q 15)) rfl cn)))))))))))) ?_
   exact hjj4 _ h _ _ (mp [] _ _ hB)
noncomputable def origin_State_L0 (a0 : (List api_Object)) (a1 : api_Prefix) (a2 : Int) (s1 : Int × Int × (List api_Object)) : Option (((Int × (List api_Object))) ⊕ (Int × Int × (List api_Object))) :=
 (if (decide (s1.2.1 < (a0.length : Int))) = true then
 jn (fun m40 : Int × (List api_Object) =>
 some (.inr (m40.1, (w64 (s1.2.1 + (1 : Int))), m40.2))) (fun j41 =>
 (idx a0 s1.2.1).bind fun x42 =>
 (prefix_Covers x42.fPrefix a1).bind fun r43 =>
 (if (!r43) = true then
 j41 (s1.1, s1.2.2)
 else
 chk (decide ((s1.2.2 ++ ([x42] : List api_Object)).length ≤ LIM)) <|
 (if (((x42.fASN == a2) && (a2 != (0 : Int))) && (decide (a1.fLen ≤ x42.fMax))) = true then
 j41 ((1 : Int), (s1.2.2 ++ ([x42] : List api_Object)))
 else
 (if (s1.1 == (0 : Int)) = true then
 j41 ((2 : Int), (s1.2.2 ++ ([x42] : List api_Object)))
 else
 j41 (s1.1, (s1.2.2 ++ ([x42] : List api_Object)))))))
 else
 some (.inl (s1.1, s1.2.2)))
noncomputable def origin_State (a0 : (List api_Object)) (a1 : api_Prefix) (a2 : Int) : Option (Int × (List api_Object)) :=
 (loop (origin_State_L0 a0 a1 a2) ((0 : Int), (0 : Int), ([] : List api_Object))).bind fun p32 =>
 some (p32.1, p32.2)
theorem origin_State_ac (a0 : (List api_Object)) (a1 : api_Prefix) (a2 : Int) (r : Int × (List api_Object)) (h : origin_State a0 a1 a2 = some r) : AC Tryd.prog 15 [(.d (.list 6 (a0.map e_api_Object))), (.d (e_api_Prefix a1)), (.d (.int .i64 a2))] [] (.tup [(.d (.int .i64 r.1)), (.d (.list 6 (r.2.map e_api_Object)))]) [] := by
 refine AC.of_code2 Tryd.func15 rfl rfl (Nat.le_of_ble_eq_true (by rfl)) fun B hB hN => ?_
 have L {d : Nat} (h : Nat.blt d Tryd.f15.ntmps = true) : d < B.N := ltN hN h
 delta origin_State at h
 refine sr (cg (OpJ.box hB (nm := 1004) (by decide) (by simp) rfl (L rfl) (q 1)) rfl (c (OpJ.assign (L rfl) (Opd.int .i64 (0))) rfl (c (OpJ.assign (L rfl) Opd.nils) rfl cn))) ?_
 refine sr (c (OpJ.assign (L rfl) Opd.nils) rfl cn) ?_
 refine sr (c (OpJ.assign (L rfl) (Opd.int .i64 (0))) rfl cn) ?_
 apply AWp.seq
 refine sr (c (mv hN (q 0)) rfl (c (OpJ.val (v' := (i6 (a0.length : Int))) (by simp) (OpJ.lenD underlying38 (L rfl) (q 12))) rfl (c (mv hN (Opd.int .i64 (0))) rfl cn))) ?_
 apply AWp.block
 obtain ⟨p32, hx49, h⟩ := bindS h
 refine lg (origin_State_L0 a0 a1 a2) (fun s1 : Int × Int × (List api_Object) => ([(2, (i6 a2)), (4, (pt 1004)), (8, (.sref 3008 6 0 s1.2.2.length)), (9, (i6 s1.1)), (12, (qe_api_Object_6 a0)), (13, (i6 (a0.length : Int))), (14, (i6 s1.2.1))] : EL)) (fun s1 : Int × Int × (List api_Object) => ([(1004, bd 44 (e_api_Prefix a1)), (3008, some (we_api_Object_46_6 s1.2.2))] : OL)) (fun (p32 : (Int × (List api_Object))) e E' O' => e = .exit 0 ∧ Mat B E' O' ([(8, (.sref 3008 6 0 p32.2.length)), (9, (i6 p32.1))] : EL) ([(3008, some (we_api_Object_46_6 p32.2))] : OL)) hx49 (Mat.trans (Mat.beginP (n := 3008) (e := 46) (sz := 6) (Ts := [(8, (.sref 3008 6 0 0))]) (Bs := []) hB (by decide) (by rfl) (by decide) (TwT.cons (x := .nils) (by rfl) (Tw.leaf ⟨rfl, rfl⟩) TwT.nil) TwB.nil) (mp [] _ _ hB)) (fun s1 y h => ?_) (fun e E' O' hR => ?_)
 ·unfold origin_State_L0 at h
  refine sr (c (OpJ.lss (L rfl) (q 14) (q 13)) rfl cn) ?_
  apply AWp.seq
  refine AWp.cond rfl (fun hg33 => ?_) (fun hg33 => ?_)
  ·replace h := ite_t hg33 h
   apply AWp.skip
   apply seqQ_n
   apply AWp.seq
   refine AWp.cut h (fun m40 : Int × (List api_Object) => ([(2, (i6 a2)), (4, (pt 1004)), (8, (.sref 3008 6 0 m40.2.length)), (9, (i6 m40.1)), (12, (qe_api_Object_6 a0)), (13, (i6 (a0.length : Int))), (14, (i6 s1.2.1))] : EL)) (fun m40 : Int × (List api_Object) => ([(1004, bd 44 (e_api_Prefix a1)), (3008, some (we_api_Object_46_6 m40.2))] : OL)) (fun m40 h E' O' hmat => ?_) (fun j41 hjj41 h => ?_)
   ·apply seqQ_n
    refine AWp.ghost hmat ?_
    refine rg (c (add6 (L rfl) (q 14) (Opd.int .i64 (1))) rfl (c (mv hN (q 44)) rfl cn)) ?_
    obtain rfl := Option.some.inj h
    exact ⟨rfl, (mp [] _ _ hB)⟩
   ·apply AWp.block
    obtain ⟨x42, hx42, h⟩ := bindS h
    refine sr (c (OpJ.indexD underlying38 tyS46 (idx_some hx42).1 (get_map e_api_Object (idx_some hx42).2) (L rfl) (q 12) (q 14)) rfl (c (OpJ.loadD tyS46 (by rfl) (by rfl) (L rfl) (q 16)) rfl (cg (OpJ.alloc hB tyZ46 (nm := 1011) (by decide) (L rfl)) rfl (cg (sB tyS46 (q 11) (q 17)) rfl cn)))) ?_
    apply AWp.seq
    obtain ⟨r43, hr43, h⟩ := bindS h
    refine sr (c (fo 1011 0 [0] hN underlying46 0 tyS44 (q 11)) rfl (c (la hN 46 tyS44 (q 18)) rfl (c (lb hN 44 _ _ tyS44 (At.here _) (q 4)) rfl (cg (cf hB fnOk33 (prefix_Covers_ac x42.fPrefix a1 r43 hr43) (L rfl) (OpdL.cons (q 19) (OpdL.cons (q 20) OpdL.nil))) rfl (c (OpJ.not (L rfl) (q 21)) rfl cn))))) ?_
    refine AWp.cond rfl (fun hg44 => ?_) (fun hg44 => ?_)
    ·replace h := ite_t hg44 h
     apply AWp.exit
     apply seqQ_e
     apply blkQ_hit
     exact hjj41 _ h _ _ (mp [] _ _ hB)
    ·replace h := ite_f hg44 h
     apply AWp.skip
     apply seqQ_n
     obtain ⟨hc45, h⟩ := chk_some h
     refine sr (c (mv hN (q 8)) rfl (c (lb hN 46 _ _ tyS46 (At.here _) (q 11)) rfl (c (OpJ.buildSlice underlying38 tyS46 tyZD46 (by rfl) (by decide) (by decide) (Opds.cons (q 24) Opds.nil) (by kernel_rfl) (es := ([(e_api_Object x42)] : List D)) (by rfl) (by rfl) (by kernel_rfl) (by simp) (L rfl)) rfl (cg (apd hB underlying38 tyE46 1026 e_api_Object s1.2.2 ([x42] : List api_Object) hc45 (L rfl) (q 23) (q 25)) rfl (c (OpJ.assign (L rfl) (q 26)) rfl cn))))) ?_
     refine sr (c (fo 1011 5 [2] hN underlying46 5 tyS3 (q 11)) rfl (c (la hN 46 tyS3 (q 27)) rfl (c (mv hN (q 2)) rfl (c (OpJ.eqlI (L rfl) (q 28) (q 29)) rfl (c (mv hN (q 30)) rfl (c (oq hN 31 (mv hN (q 2)) (OptL.keep (by rfl) OptL.nil) (GuardV.plain _)) rfl (c (oq hN 31 (OpJ.neqI (L rfl) (q 32) (Opd.int .i64 (0))) (OptL.opt OptL.nil) (GuardV.plain _)) rfl (c (OpJ.pickAnd rfl (L rfl) (q 31) (q 33)) rfl (c (mv hN (q 34)) rfl (c (oq hN 35 (fo 1011 4 [1] hN underlying46 4 tyS3 (q 11)) (OptL.keep (by rfl) OptL.nil) (GuardV.plain _)) rfl (c (oq hN 35 (la hN 46 tyS3 (q 36)) (OptL.opt OptL.nil) (GuardV.plain _)) rfl (c (oq hN 35 (fo 1004 3 [1] hN underlying44 3 tyS3 (q 4)) (OptL.keep (by rfl) OptL.nil) (GuardV.plain _)) rfl (c (oq hN 35 (la hN 44 tyS3 (q 38)) (OptL.opt OptL.nil) (GuardV.plain _)) rfl (c (oq hN 35 (OpJ.geq (L rfl) (q 37) (q 39)) (OptL.opt (OptL.opt OptL.nil)) (GuardV.plain _)) rfl (c (OpJ.pickAnd rfl (L rfl) (q 35) (q 40)) rfl cn))))))))))))))) ?_
     refine AWp.cond rfl (fun hg46 => ?_) (fun hg46 => ?_)
     ·replace h := ite_t hg46 h
      refine rg (c (OpJ.assign (L rfl) (Opd.int .i64 (1))) rfl cn) ?_
      apply blkQ_n
      exact hjj41 _ h _ _ (mp [(3008, 1026)] _ _ hB)
     ·replace h := ite_f hg46 h
      refine sr (c (mv hN (q 9)) rfl (c (OpJ.eqlI (L rfl) (q 42) (Opd.int .i64 (0))) rfl cn)) ?_
      refine AWp.cond rfl (fun hg47 => ?_) (fun hg47 => ?_)
      ·replace h := ite_t hg47 h
       refine rg (c (OpJ.assign (L rfl) (Opd.int .i64 (2))) rfl cn) ?_
       apply blkQ_n
       exact hjj41 _ h _ _ (mp [(3008, 1026)] _ _ hB)
      ·replace h := ite_f hg47 h
       apply AWp.skip
       apply blkQ_n
       exact hjj41 _ h _ _ (mp [(3008, 1026)] _ _ hB)
  ·replace h := ite_f hg33 h
   apply AWp.exit
   apply seqQ_e
   obtain rfl := Option.some.inj h
   exact ⟨(fun hc => by cases hc), rfl, (mp [] _ _ hB)⟩
 ·obtain ⟨rfl, hmat⟩ := hR
  apply blkQ_hit
  apply seqQ_n
  refine AWp.ghost hmat ?_
  refine sr (c (mv hN (q 9)) rfl (c (mv hN (q 8)) rfl (c (OpJ.assign (L rfl) (q 45)) rfl (c (OpJ.assign (L rfl) (q 46)) rfl cn)))) ?_
  apply AWp.ret
  obtain rfl := Option.some.inj h
  exact ⟨.inl rfl, _, _, (Mat.trans (Mat.freezeP (n := 3008) (e := 46) (sz := 6) (es := p32.2.map e_api_Object) (Ts := [(7, (qe_api_Object_6 p32.2))]) (Bs := []) (by rfl) (TwT.cons (x := (.sref 3008 6 0 p32.2.length)) (by rfl) (FrzL.all (by first | rfl | (simp; done) | (simp; omega) | omega)) TwT.nil) TwB.nil) (mp [] [(6, (i6 p32.1)), (7, (qe_api_Object_6 p32.2))] [] hB)), [(i6 p32.1), (qe_api_Object_6 p32.2)], (Res.tmp (by rfl) (by rfl) (Res.tmp (by rfl) (by rfl) Res.nil)), rfl, by rfl, by rfl, by rfl⟩
noncomputable def exchangepointlaw22_awake : Option (Bool) :=
 (exchangepointlaw22_awake_1 (0 : Int) (8 : Int)).bind fun r1 =>
 (exchangepointref21_Of ([r1] : List api_Prefix) ([] : List api_Span)).bind fun r2 =>
 (exchangepointlaw22_awake_1 (1 : Int) (16 : Int)).bind fun r3 =>
 (exchangepointref21_Of ([r3] : List api_Prefix) ([] : List api_Span)).bind fun r4 =>
 (exchangepointlaw22_awake_1 (1 : Int) (16 : Int)).bind fun r5 =>
 (origin_Payloads ([(api_Cert.mk (1 : Int) (1 : Int) (0 : Int) (9 : Int) r2.1), (api_Cert.mk (2 : Int) (1 : Int) (0 : Int) (9 : Int) r4.1)] : List api_Cert) ([(api_Signed.mk (2 : Int) (7 : Int) (0 : Int) (9 : Int) ([(api_Object.mk r5 (16 : Int) (7 : Int))] : List api_Object))] : List api_Signed) ([(1 : Int)] : List Int) (5 : Int)).bind fun r6 =>
 (exchangepointlaw22_awake_1 (1 : Int) (16 : Int)).bind fun r7 =>
 (origin_State r6.1 r7 (7 : Int)).bind fun r8 =>
 (exchangepointlaw22_awake_1 (1 : Int) (16 : Int)).bind fun r9 =>
 (origin_State r6.1 r9 (8 : Int)).bind fun r10 =>
 some ((((r6.2 == (0 : Int)) && ((r6.1.length : Int) == (1 : Int))) && (r8.1 == (1 : Int))) && (r10.1 == (2 : Int)))
theorem exchangepointlaw22_awake_ac (r : Bool) (h : exchangepointlaw22_awake = some r) : AC Tryd.prog 10 [] [(500, (.know (globF 0 [82, 122, 123]))), (501, (.know (globF 1 [77, 124, 125])))] (.d (.bool r)) [(500, some (.know (globF 0 [82, 122, 123]))), (501, some (.know (globF 1 [77, 124, 125])))] := by
 refine AC.of_code2 Tryd.func10 rfl rfl (Nat.le_of_ble_eq_true (by rfl)) fun B hB hN => ?_
 have L {d : Nat} (h : Nat.blt d Tryd.f10.ntmps = true) : d < B.N := ltN hN h
 delta exchangepointlaw22_awake at h
 refine sr (c (OpJ.assign (L rfl) (Opd.bool false)) rfl cn) ?_
 refine sr (c (OpJ.assign (L rfl) (Opd.func 26)) rfl cn) ?_
 obtain ⟨r1, hr1, h⟩ := bindS h
 obtain ⟨r2, hr2, h⟩ := bindS h
 refine sr (c (mv hN (q 1)) rfl (cg (OpJ.callVal (args := [(i6 0), (i6 (8 : Int))]) (caps := []) hB fnOk26 [] (exchangepointlaw22_awake_1_ac (0 : Int) (8 : Int) r1 hr1) (by kernel_rfl) (L rfl) (by kernel_rfl) (by kernel_rfl) (OpdL.cons (Opd.int .i64 (0)) (OpdL.cons (Opd.int .i64 (8)) OpdL.nil))) rfl (c (OpJ.buildSlice underlying49 tyS44 tyZD44 (by rfl) (by decide) (by decide) (Opds.cons (q 15) Opds.nil) (by kernel_rfl) (es := ([(e_api_Prefix r1)] : List D)) (by rfl) (by rfl) (by kernel_rfl) (by simp) (L rfl)) rfl (cg (cf hB fnOk19 (exchangepointref21_Of_ac ([r1] : List api_Prefix) ([] : List api_Span) r2 hr2) (L rfl) (OpdL.cons (q 16) (OpdL.cons (Opd.tw Opd.nils (Tw.leaf ⟨_, (Co.nils 2), rfl⟩)) OpdL.nil))) rfl (c (mv hN (q 17)) rfl (c (OpJ.extract (by rfl) rfl (L rfl) (q 13)) rfl (c (OpJ.extract (by rfl) rfl (L rfl) (q 13)) rfl (cg (OpJ.alloc hB tyZ26 (nm := 1002) (by decide) (L rfl)) rfl (cg (sB tyS26 (q 2) (q 18)) rfl (c (OpJ.assign (L rfl) (q 19)) rfl cn)))))))))) ?_
 obtain ⟨r3, hr3, h⟩ := bindS h
 obtain ⟨r4, hr4, h⟩ := bindS h
 refine sr (c (mv hN (q 1)) rfl (cg (OpJ.callVal (args := [(i6 1), (i6 (16 : Int))]) (caps := []) hB fnOk26 [] (exchangepointlaw22_awake_1_ac (1 : Int) (16 : Int) r3 hr3) (by kernel_rfl) (L rfl) (by kernel_rfl) (by kernel_rfl) (OpdL.cons (Opd.int .i64 (1)) (OpdL.cons (Opd.int .i64 (16)) OpdL.nil))) rfl (c (OpJ.buildSlice underlying49 tyS44 tyZD44 (by rfl) (by decide) (by decide) (Opds.cons (q 22) Opds.nil) (by kernel_rfl) (es := ([(e_api_Prefix r3)] : List D)) (by rfl) (by rfl) (by kernel_rfl) (by simp) (L rfl)) rfl (cg (cf hB fnOk19 (exchangepointref21_Of_ac ([r3] : List api_Prefix) ([] : List api_Span) r4 hr4) (L rfl) (OpdL.cons (q 23) (OpdL.cons (Opd.tw Opd.nils (Tw.leaf ⟨_, (Co.nils 2), rfl⟩)) OpdL.nil))) rfl (c (mv hN (q 24)) rfl (c (OpJ.extract (by rfl) rfl (L rfl) (q 20)) rfl (c (OpJ.extract (by rfl) rfl (L rfl) (q 20)) rfl (cg (OpJ.alloc hB tyZ26 (nm := 1004) (by decide) (L rfl)) rfl (cg (sB tyS26 (q 4) (q 25)) rfl (c (OpJ.assign (L rfl) (q 26)) rfl cn)))))))))) ?_
 refine sr (c (lb hN 26 _ _ tyS26 (At.here _) (q 2)) rfl (c (OpJ.coe (v := (.st [(i6 1), (i6 1), (i6 0), (i6 (9 : Int)), (.d (e_api_Resources r2.1))])) (y := (.st [(.int .i64 1), (.int .i64 1), (.int .i64 0), (.int .i64 (9 : Int)), (e_api_Resources r2.1)])) (Co.st (CoL.cons (Co.d _) (CoL.cons (Co.d _) (CoL.cons (Co.d _) (CoL.cons (Co.d _) (CoL.cons (Co.d _) CoL.nil)))))) rfl (OpJ.build (places := [(0, 1), (1, 1), (2, 1), (3, 1), (4, 2)]) ⟨underlying33, fun w => by kernel_rfl⟩ tyZS33 (Opds.cons (Opd.int .i64 (1)) (Opds.cons (Opd.int .i64 (1)) (Opds.cons (Opd.int .i64 (9)) (Opds.cons (q 27) Opds.nil)))) (by kernel_rfl) (r := (.st [(i6 1), (i6 1), (i6 0), (i6 (9 : Int)), (.d (e_api_Resources r2.1))])) (by rfl) (L rfl))) rfl (c (lb hN 26 _ _ tyS26 (At.here _) (q 4)) rfl (c (OpJ.coe (v := (.st [(i6 (2 : Int)), (i6 1), (i6 0), (i6 (9 : Int)), (.d (e_api_Resources r4.1))])) (y := (.st [(.int .i64 (2 : Int)), (.int .i64 1), (.int .i64 0), (.int .i64 (9 : Int)), (e_api_Resources r4.1)])) (Co.st (CoL.cons (Co.d _) (CoL.cons (Co.d _) (CoL.cons (Co.d _) (CoL.cons (Co.d _) (CoL.cons (Co.d _) CoL.nil)))))) rfl (OpJ.build (places := [(0, 1), (1, 1), (2, 1), (3, 1), (4, 2)]) ⟨underlying33, fun w => by kernel_rfl⟩ tyZS33 (Opds.cons (Opd.int .i64 (2)) (Opds.cons (Opd.int .i64 (1)) (Opds.cons (Opd.int .i64 (9)) (Opds.cons (q 29) Opds.nil)))) (by kernel_rfl) (r := (.st [(i6 (2 : Int)), (i6 1), (i6 0), (i6 (9 : Int)), (.d (e_api_Resources r4.1))])) (by rfl) (L rfl))) rfl (c (OpJ.buildSlice underlying30 tyS33 tyZD33 (by rfl) (by decide) (by decide) (Opds.cons (q 28) (Opds.cons (q 30) Opds.nil)) (by kernel_rfl) (es := ([(.st [(.int .i64 1), (.int .i64 1), (.int .i64 0), (.int .i64 (9 : Int)), (e_api_Resources r2.1)]), (.st [(.int .i64 (2 : Int)), (.int .i64 1), (.int .i64 0), (.int .i64 (9 : Int)), (e_api_Resources r4.1)])] : List D)) (by rfl) (by rfl) (by kernel_rfl) (by simp) (L rfl)) rfl (c (OpJ.assign (L rfl) (q 31)) rfl cn)))))) ?_
 apply AWp.seq
 obtain ⟨r5, hr5, h⟩ := bindS h
 obtain ⟨r6, hr6, h⟩ := bindS h
 refine AWp.region (oc (mv hN (ot 6 (qe_api_Cert_6 ([(api_Cert.mk (1 : Int) (1 : Int) (0 : Int) (9 : Int) r2.1), (api_Cert.mk (2 : Int) (1 : Int) (0 : Int) (9 : Int) r4.1)] : List api_Cert))))
 (oc (mv hN (ot 1 (.func 26 [])))
 (oc (OpJ.callVal (args := [(i6 1), (i6 (16 : Int))]) (caps := []) hB fnOk26 [] (exchangepointlaw22_awake_1_ac (1 : Int) (16 : Int) r5 hr5) (by kernel_rfl) (L rfl) (by kernel_rfl) (by kernel_rfl) (OpdL.cons (Opd.int .i64 (1)) (OpdL.cons (Opd.int .i64 (16)) OpdL.nil)))
 (oc (OpJ.coe (v := (.st [(.d (e_api_Prefix r5)), (i6 (16 : Int)), (i6 (7 : Int))])) (y := (.st [(e_api_Prefix r5), (.int .i64 (16 : Int)), (.int .i64 (7 : Int))])) (Co.st (CoL.cons (Co.d _) (CoL.cons (Co.d _) (CoL.cons (Co.d _) CoL.nil)))) rfl (OpJ.build (places := [(0, 4), (4, 1), (5, 1)]) ⟨underlying46, fun w => by kernel_rfl⟩ tyZS46 (Opds.cons (ot 35 (.d (e_api_Prefix r5))) (Opds.cons (Opd.int .i64 (16)) (Opds.cons (Opd.int .i64 (7)) Opds.nil))) (by kernel_rfl) (r := (.st [(.d (e_api_Prefix r5)), (i6 (16 : Int)), (i6 (7 : Int))])) (by rfl) (L rfl)))
 (oc (OpJ.buildSlice underlying38 tyS46 tyZD46 (by rfl) (by decide) (by decide) (Opds.cons (ot 36 (.d (.st [(e_api_Prefix r5), (.int .i64 (16 : Int)), (.int .i64 (7 : Int))]))) Opds.nil) (by kernel_rfl) (es := ([(.st [(e_api_Prefix r5), (.int .i64 (16 : Int)), (.int .i64 (7 : Int))])] : List D)) (by rfl) (by rfl) (by kernel_rfl) (by simp) (L rfl))
 (oc (OpJ.coe (v := (.st [(i6 (2 : Int)), (i6 (7 : Int)), (i6 0), (i6 (9 : Int)), (qe_api_Object_6 ([(api_Object.mk r5 (16 : Int) (7 : Int))] : List api_Object))])) (y := (.st [(.int .i64 (2 : Int)), (.int .i64 (7 : Int)), (.int .i64 0), (.int .i64 (9 : Int)), (.list 6 (([(api_Object.mk r5 (16 : Int) (7 : Int))] : List api_Object).map e_api_Object))])) (Co.st (CoL.cons (Co.d _) (CoL.cons (Co.d _) (CoL.cons (Co.d _) (CoL.cons (Co.d _) (CoL.cons (Co.d _) CoL.nil)))))) rfl (OpJ.build (places := [(0, 1), (1, 1), (2, 1), (3, 1), (4, 1)]) ⟨underlying75, fun w => by kernel_rfl⟩ tyZS75 (Opds.cons (Opd.int .i64 (2)) (Opds.cons (Opd.int .i64 (7)) (Opds.cons (Opd.int .i64 (9)) (Opds.cons (ot 37 (qe_api_Object_6 ([(api_Object.mk r5 (16 : Int) (7 : Int))] : List api_Object))) Opds.nil)))) (by kernel_rfl) (r := (.st [(i6 (2 : Int)), (i6 (7 : Int)), (i6 0), (i6 (9 : Int)), (qe_api_Object_6 ([(api_Object.mk r5 (16 : Int) (7 : Int))] : List api_Object))])) (by rfl) (L rfl)))
 (oc (OpJ.buildSlice underlying76 tyS75 tyZD75 (by rfl) (by decide) (by decide) (Opds.cons (ot 38 (.d (.st [(.int .i64 (2 : Int)), (.int .i64 (7 : Int)), (.int .i64 0), (.int .i64 (9 : Int)), (.list 6 (([(api_Object.mk r5 (16 : Int) (7 : Int))] : List api_Object).map e_api_Object))]))) Opds.nil) (by kernel_rfl) (es := ([(.st [(.int .i64 (2 : Int)), (.int .i64 (7 : Int)), (.int .i64 0), (.int .i64 (9 : Int)), (.list 6 (([(api_Object.mk r5 (16 : Int) (7 : Int))] : List api_Object).map e_api_Object))])] : List D)) (by rfl) (by rfl) (by kernel_rfl) (by simp) (L rfl))
 (oc (OpJ.buildSlice underlying22 tyS3 tyZD3 (by rfl) (by decide) (by decide) (Opds.cons (Opd.int .i64 (1)) Opds.nil) (by kernel_rfl) (es := ([(.int .i64 1)] : List D)) (by rfl) (by rfl) (by kernel_rfl) (by simp) (L rfl))
 (oc (OpJ.callFn hB fnOk27 (origin_Payloads_ac ([(api_Cert.mk (1 : Int) (1 : Int) (0 : Int) (9 : Int) r2.1), (api_Cert.mk (2 : Int) (1 : Int) (0 : Int) (9 : Int) r4.1)] : List api_Cert) ([(api_Signed.mk (2 : Int) (7 : Int) (0 : Int) (9 : Int) ([(api_Object.mk r5 (16 : Int) (7 : Int))] : List api_Object))] : List api_Signed) ([(1 : Int)] : List Int) (5 : Int) r6 hr6) [(500, 500), (501, 501)] (by kernel_rfl) (L rfl) (by kernel_rfl) (OpdL.cons (ot 33 (qe_api_Cert_6 ([(api_Cert.mk (1 : Int) (1 : Int) (0 : Int) (9 : Int) r2.1), (api_Cert.mk (2 : Int) (1 : Int) (0 : Int) (9 : Int) r4.1)] : List api_Cert))) (OpdL.cons (ot 39 (qe_api_Signed_5 ([(api_Signed.mk (2 : Int) (7 : Int) (0 : Int) (9 : Int) ([(api_Object.mk r5 (16 : Int) (7 : Int))] : List api_Object))] : List api_Signed))) (OpdL.cons (ot 40 (qI_1 ([(1 : Int)] : List Int))) (OpdL.cons (Opd.int .i64 (5)) OpdL.nil)))))
 (oc (mv hN (ot 41 (.tup [(qe_api_Object_6 r6.1), (i6 r6.2)])))
 (oc (OpJ.extract (v := (qe_api_Object_6 r6.1)) (by rfl) rfl (L rfl) (ot 32 (.tup [(qe_api_Object_6 r6.1), (i6 r6.2)])))
 (oc (OpJ.extract (v := (i6 r6.2)) (by rfl) rfl (L rfl) (ot 32 (.tup [(qe_api_Object_6 r6.1), (i6 r6.2)])))
 (oc (OpJ.assign (L rfl) (ot 42 (qe_api_Object_6 r6.1)))
 (oc (OpJ.assign (L rfl) (ot 43 (i6 r6.2)))
 (OpJs.nil))))))))))))))) (by rfl) (by rfl) ?_
 apply seqQ_n
 refine AWp.ghost (mp [] [(1, (.func 26 [])), (7, (qe_api_Object_6 r6.1)), (8, (i6 r6.2))] [(500, some (.know (globF 0 [82, 122, 123]))), (501, some (.know (globF 1 [77, 124, 125])))] hB) ?_
 obtain ⟨r7, hr7, h⟩ := bindS h
 obtain ⟨r8, hr8, h⟩ := bindS h
 refine sr (c (mv hN (q 7)) rfl (c (mv hN (q 1)) rfl (cg (OpJ.callVal (args := [(i6 1), (i6 (16 : Int))]) (caps := []) hB fnOk26 [] (exchangepointlaw22_awake_1_ac (1 : Int) (16 : Int) r7 hr7) (by kernel_rfl) (L rfl) (by kernel_rfl) (by kernel_rfl) (OpdL.cons (Opd.int .i64 (1)) (OpdL.cons (Opd.int .i64 (16)) OpdL.nil))) rfl (cg (cf hB fnOk15 (origin_State_ac r6.1 r7 (7 : Int) r8 hr8) (L rfl) (OpdL.cons (q 45) (OpdL.cons (q 47) (OpdL.cons (Opd.int .i64 (7)) OpdL.nil)))) rfl (c (mv hN (q 48)) rfl (c (OpJ.extract (by rfl) rfl (L rfl) (q 44)) rfl (c (OpJ.extract (by rfl) rfl (L rfl) (q 44)) rfl (c (OpJ.assign (L rfl) (q 49)) rfl (c (OpJ.assign (L rfl) (q 50)) rfl cn))))))))) ?_
 obtain ⟨r9, hr9, h⟩ := bindS h
 obtain ⟨r10, hr10, h⟩ := bindS h
 refine sr (c (mv hN (q 7)) rfl (c (mv hN (q 1)) rfl (cg (OpJ.callVal (args := [(i6 1), (i6 (16 : Int))]) (caps := []) hB fnOk26 [] (exchangepointlaw22_awake_1_ac (1 : Int) (16 : Int) r9 hr9) (by kernel_rfl) (L rfl) (by kernel_rfl) (by kernel_rfl) (OpdL.cons (Opd.int .i64 (1)) (OpdL.cons (Opd.int .i64 (16)) OpdL.nil))) rfl (cg (cf hB fnOk15 (origin_State_ac r6.1 r9 (8 : Int) r10 hr10) (L rfl) (OpdL.cons (q 52) (OpdL.cons (q 54) (OpdL.cons (Opd.int .i64 (8)) OpdL.nil)))) rfl (c (mv hN (q 55)) rfl (c (OpJ.extract (by rfl) rfl (L rfl) (q 51)) rfl (c (OpJ.extract (by rfl) rfl (L rfl) (q 51)) rfl (c (OpJ.assign (L rfl) (q 56)) rfl (c (OpJ.assign (L rfl) (q 57)) rfl cn))))))))) ?_
 refine sr (c (mv hN (q 8)) rfl (c (OpJ.eqlI (L rfl) (q 58) (Opd.int .i64 (0))) rfl (c (mv hN (q 59)) rfl (c (oq hN 60 (mv hN (q 7)) (OptL.keep (by rfl) OptL.nil) (GuardV.plain _)) rfl (c (oq hN 60 (OpJ.val (v' := (i6 (r6.1.length : Int))) (by simp) (OpJ.lenD underlying38 (L rfl) (q 61))) (OptL.opt OptL.nil) (GuardV.plain _)) rfl (c (oq hN 60 (OpJ.eqlI (L rfl) (q 62) (Opd.int .i64 (1))) (OptL.opt OptL.nil) (GuardV.plain _)) rfl (c (OpJ.pickAnd rfl (L rfl) (q 60) (q 63)) rfl (c (mv hN (q 64)) rfl (c (oq hN 65 (mv hN (q 9)) (OptL.keep (by rfl) OptL.nil) (GuardV.plain _)) rfl (c (oq hN 65 (OpJ.eqlI (L rfl) (q 66) (Opd.int .i64 (1))) (OptL.opt OptL.nil) (GuardV.plain _)) rfl (c (OpJ.pickAnd rfl (L rfl) (q 65) (q 67)) rfl (c (mv hN (q 68)) rfl (c (oq hN 69 (mv hN (q 11)) (OptL.keep (by rfl) OptL.nil) (GuardV.plain _)) rfl (c (oq hN 69 (OpJ.eqlI (L rfl) (q 70) (Opd.int .i64 (2))) (OptL.opt OptL.nil) (GuardV.plain _)) rfl (c (OpJ.pickAnd rfl (L rfl) (q 69) (q 71)) rfl (c (OpJ.assign (L rfl) (q 72)) rfl cn)))))))))))))))) ?_
 apply AWp.ret
 obtain rfl := Option.some.inj h
 exact ⟨.inl rfl, _, _, (kp [(0, _)] [(500, some _), (501, some _)] hB rfl rfl (by rfl)), [(bo ((((r6.2 == (0 : Int)) && ((r6.1.length : Int) == (1 : Int))) && (r8.1 == (1 : Int))) && (r10.1 == (2 : Int))))], (Res.tmp (by rfl) (by rfl) Res.nil), rfl, by rfl, by rfl, by rfl⟩
noncomputable def exchangepointlaw22_OriginChains_L0 (r2 : api_Resources × exchangepointmake_Deck) (r3 : Int) (s4 : Int × (List api_Cert)) : Option ((((List api_Cert))) ⊕ (Int × (List api_Cert))) :=
 (if (decide (s4.1 < (w64 ((15 : Int) + r3)))) = true then
 chk (decide ((s4.2 ++ ([(api_Cert.mk (w64 (s4.1 + (1 : Int))) (maxI (1 : Int) s4.1) (0 : Int) (9 : Int) r2.1)] : List api_Cert)).length ≤ LIM)) <|
 some (.inr ((w64 (s4.1 + (1 : Int))), (s4.2 ++ ([(api_Cert.mk (w64 (s4.1 + (1 : Int))) (maxI (1 : Int) s4.1) (0 : Int) (9 : Int) r2.1)] : List api_Cert))))
 else
 some (.inl s4.2))
noncomputable def exchangepointlaw22_OriginChains_L1 (r14 : Int) (r20 : (List Bool)) (s22 : Int) : Option (((Unit) ⊕ (Unit)) ⊕ (Int)) :=
 (if (decide (s22 < (r20.length : Int))) = true then
 (idx r20 s22).bind fun x32 =>
 (if (x32 != ((decide (s22 < (16 : Int))) && (decide (s22 < r14)))) = true then
 some (.inl (.inl ()))
 else
 some (.inr (w64 (s22 + (1 : Int)))))
 else
 some (.inl (.inr ())))
noncomputable def exchangepointlaw22_OriginChains (a0 : (List Int)) (a1 : Int) (a2 : Int) : Option (Bool) :=
 (exchangepointmake_New a0).bind fun r1 =>
 (exchangepointmake_Deck_Resources r1).bind fun r2 =>
 (exchangepointmake_Mod a1 (4 : Int)).bind fun r3 =>
 (loop (exchangepointlaw22_OriginChains_L0 r2 r3) ((0 : Int), ([] : List api_Cert))).bind fun p9 =>
 (exchangepointmake_Mod a2 (w64 ((2 : Int) * (p9.length : Int)))).bind fun r14 =>
 jn (fun m18 : (List api_Cert) =>
 (origin_Trusted m18 ([(1 : Int)] : List Int) (5 : Int)).bind fun r20 =>
 (if ((r20.length : Int) != (m18.length : Int)) = true then
 some false
 else
 (loop (exchangepointlaw22_OriginChains_L1 r14 r20) (0 : Int)).bind fun x34 => match x34 with
 | (.inl _) =>
  some false
 | (.inr _) =>
  (exchangepointlaw22_awake).bind fun r36 =>
  some r36)) (fun j19 =>
 (if (decide (r14 < (p9.length : Int))) = true then
 (idx p9 r14).bind fun x38 =>
 (idx p9 r14).bind fun x39 =>
 j19 (p9.set r14.toNat (api_Cert.mk x39.fKey x39.fIssuer x39.fFrom (3 : Int) x39.fResources))
 else
 j19 p9))
theorem exchangepointlaw22_OriginChains_ac (a0 : (List Int)) (a1 : Int) (a2 : Int) (r : Bool) (h : exchangepointlaw22_OriginChains a0 a1 a2 = some r) : AC Tryd.prog 3 [(.d (.list 1 (a0.map (eI .i64)))), (.d (.int .i64 a1)), (.d (.int .i64 a2))] [(500, (.know (globF 0 [82, 122, 123]))), (501, (.know (globF 1 [77, 124, 125])))] (.d (.bool r)) [(500, some (.know (globF 0 [82, 122, 123]))), (501, some (.know (globF 1 [77, 124, 125])))] := by
 refine AC.of_code2 Tryd.func3 rfl rfl (Nat.le_of_ble_eq_true (by rfl)) fun B hB hN => ?_
 have L {d : Nat} (h : Nat.blt d Tryd.f3.ntmps = true) : d < B.N := ltN hN h
 delta exchangepointlaw22_OriginChains at h
 refine sr (c (OpJ.assign (L rfl) (Opd.bool false)) rfl cn) ?_
 apply AWp.seq
 obtain ⟨r1, hr1, h⟩ := bindS h
 obtain ⟨r2, hr2, h⟩ := bindS h
 refine AWp.region (oc (mv hN (ot 0 (qI_1 a0)))
 (oc (OpJ.callFn hB fnOk6 (exchangepointmake_New_ac a0 r1 hr1) [(1005, 100000)] (by kernel_rfl) (L rfl) (by kernel_rfl) (OpdL.cons (ot 14 (qI_1 a0)) OpdL.nil))
 (oc (OpJ.callFn hB fnOk7 (exchangepointmake_Deck_Resources_ac r1 r2 hr2) [(0, 100000)] (by kernel_rfl) (L rfl) (by kernel_rfl) (OpdL.cons (ot 15 (pt 100000)) OpdL.nil))
 (oc (OpJ.alloc hB tyZ26 (nm := 1007) (by decide) (L rfl))
 (oc (OpJ.storeB (bt := 26) (c := (.st [.nils, .nils])) (v := (.d (e_api_Resources r2.1))) (c' := (.d (e_api_Resources r2.1))) tyS26 (SetAt.here _ _) (by rfl) (by rfl) (by simp) rfl (ot 7 (pt 1007)) (ot 16 (.d (e_api_Resources r2.1))))
 (OpJs.nil)))))) (by rfl) (by rfl) ?_
 apply seqQ_n
 refine AWp.ghost (mp [] [(1, (i6 a1)), (2, (i6 a2)), (7, (pt 1007))] [(500, some (.know (globF 0 [82, 122, 123]))), (501, some (.know (globF 1 [77, 124, 125]))), (1007, bd 26 (e_api_Resources r2.1))] hB) ?_
 refine sr (c (OpJ.assign (L rfl) Opd.nils) rfl cn) ?_
 apply AWp.seq
 obtain ⟨r3, hr3, h⟩ := bindS h
 refine sr (c (mv hN (q 1)) rfl (cg (cf hB fnOk8 (exchangepointmake_Mod_ac a1 (4 : Int) r3 hr3) (L rfl) (OpdL.cons (q 17) (OpdL.cons (Opd.int .i64 (4)) OpdL.nil))) rfl (c (add6 (L rfl) (Opd.int .i64 (15)) (q 18)) rfl (c (mv hN (Opd.int .i64 (0))) rfl cn)))) ?_
 apply AWp.block
 obtain ⟨p9, hx13, h⟩ := bindS h
 refine lg (exchangepointlaw22_OriginChains_L0 r2 r3) (fun s4 : Int × (List api_Cert) => ([(2, (i6 a2)), (7, (pt 1007)), (8, (.sref 3008 6 0 s4.2.length)), (19, (i6 (w64 ((15 : Int) + r3)))), (20, (i6 s4.1))] : EL)) (fun s4 : Int × (List api_Cert) => ([(500, some (.know (globF 0 [82, 122, 123]))), (501, some (.know (globF 1 [77, 124, 125]))), (1007, bd 26 (e_api_Resources r2.1)), (3008, some (we_api_Cert_33_6 s4.2))] : OL)) (fun (p9 : ((List api_Cert))) e E' O' => e = .exit 0 ∧ Mat B E' O' ([(2, (i6 a2)), (8, (.sref 3008 6 0 p9.length))] : EL) ([(500, some (.know (globF 0 [82, 122, 123]))), (501, some (.know (globF 1 [77, 124, 125]))), (3008, some (we_api_Cert_33_6 p9))] : OL)) hx13 (Mat.trans (Mat.beginP (n := 3008) (e := 33) (sz := 6) (Ts := [(8, (.sref 3008 6 0 0))]) (Bs := []) hB (by decide) (by rfl) (by decide) (TwT.cons (x := .nils) (by rfl) (Tw.leaf ⟨rfl, rfl⟩) TwT.nil) TwB.nil) (mp [] _ _ hB)) (fun s4 y h => ?_) (fun e E' O' hR => ?_)
 ·unfold exchangepointlaw22_OriginChains_L0 at h
  refine sr (c (OpJ.lss (L rfl) (q 20) (q 19)) rfl cn) ?_
  apply AWp.seq
  refine AWp.cond rfl (fun hg10 => ?_) (fun hg10 => ?_)
  ·replace h := ite_t hg10 h
   apply AWp.skip
   apply seqQ_n
   apply AWp.seq
   apply AWp.block
   refine sr (c (mv hN (q 20)) rfl (c (OpJ.assign (L rfl) (q 22)) rfl cn)) ?_
   obtain ⟨hc11, h⟩ := chk_some h
   refine rg (c (mv hN (q 8)) rfl (c (mv hN (q 9)) rfl (c (add6 (L rfl) (q 24) (Opd.int .i64 (1))) rfl (c (mv hN (q 9)) rfl (c (OpJ.max (L rfl) (Opd.int .i64 (1)) (q 26)) rfl (c (lb hN 26 _ _ tyS26 (At.here _) (q 7)) rfl (c (OpJ.coe (v := (.st [(i6 (w64 (s4.1 + (1 : Int)))), (i6 (maxI (1 : Int) s4.1)), (i6 0), (i6 (9 : Int)), (.d (e_api_Resources r2.1))])) (y := (.st [(.int .i64 (w64 (s4.1 + (1 : Int)))), (.int .i64 (maxI (1 : Int) s4.1)), (.int .i64 0), (.int .i64 (9 : Int)), (e_api_Resources r2.1)])) (Co.st (CoL.cons (Co.d _) (CoL.cons (Co.d _) (CoL.cons (Co.d _) (CoL.cons (Co.d _) (CoL.cons (Co.d _) CoL.nil)))))) rfl (OpJ.build (places := [(0, 1), (1, 1), (2, 1), (3, 1), (4, 2)]) ⟨underlying33, fun w => by kernel_rfl⟩ tyZS33 (Opds.cons (q 25) (Opds.cons (q 27) (Opds.cons (Opd.int .i64 (9)) (Opds.cons (q 28) Opds.nil)))) (by kernel_rfl) (r := (.st [(i6 (w64 (s4.1 + (1 : Int)))), (i6 (maxI (1 : Int) s4.1)), (i6 0), (i6 (9 : Int)), (.d (e_api_Resources r2.1))])) (by rfl) (L rfl))) rfl (c (OpJ.buildSlice underlying30 tyS33 tyZD33 (by rfl) (by decide) (by decide) (Opds.cons (q 29) Opds.nil) (by kernel_rfl) (es := ([(.st [(.int .i64 (w64 (s4.1 + (1 : Int)))), (.int .i64 (maxI (1 : Int) s4.1)), (.int .i64 0), (.int .i64 (9 : Int)), (e_api_Resources r2.1)])] : List D)) (by rfl) (by rfl) (by kernel_rfl) (by simp) (L rfl)) rfl (cg (apd hB underlying30 tyE33 1031 e_api_Cert s4.2 ([(api_Cert.mk (w64 (s4.1 + (1 : Int))) (maxI (1 : Int) s4.1) (0 : Int) (9 : Int) r2.1)] : List api_Cert) hc11 (L rfl) (q 23) (q 30)) rfl (c (OpJ.assign (L rfl) (q 31)) rfl cn)))))))))) ?_
   apply blkQ_n
   apply seqQ_n
   refine rg (c (add6 (L rfl) (q 20) (Opd.int .i64 (1))) rfl (c (mv hN (q 32)) rfl cn)) ?_
   obtain rfl := Option.some.inj h
   exact ⟨rfl, (mp [(3008, 1031)] _ _ hB)⟩
  ·replace h := ite_f hg10 h
   apply AWp.exit
   apply seqQ_e
   obtain rfl := Option.some.inj h
   exact ⟨(fun hc => by cases hc), rfl, (mp [] _ _ hB)⟩
 ·obtain ⟨rfl, hmat⟩ := hR
  apply blkQ_hit
  apply seqQ_n
  refine AWp.ghost hmat ?_
  obtain ⟨r14, hr14, h⟩ := bindS h
  refine sr (c (mv hN (q 2)) rfl (c (mv hN (q 8)) rfl (c (OpJ.lenS underlying30 (L rfl) (q 34)) rfl (c (mul6 (L rfl) (Opd.int .i64 (2)) (q 35)) rfl (cg (cf hB fnOk8 (exchangepointmake_Mod_ac a2 (w64 ((2 : Int) * (p9.length : Int))) r14 hr14) (L rfl) (OpdL.cons (q 33) (OpdL.cons (q 36) OpdL.nil))) rfl (c (OpJ.assign (L rfl) (q 37)) rfl cn)))))) ?_
  apply AWp.seq
  refine sr (c (mv hN (q 10)) rfl (c (mv hN (q 8)) rfl (c (OpJ.lenS underlying30 (L rfl) (q 39)) rfl (c (OpJ.lss (L rfl) (q 38) (q 40)) rfl cn)))) ?_
  refine gh [(8, _), (10, _), (41, _)] [(500, some _), (501, some _), (3008, some _)] hB rfl rfl (by rfl) ?_
  refine AWp.cut h (fun m18 : (List api_Cert) => ([(8, (.sref 3008 6 0 m18.length)), (10, (i6 r14))] : EL)) (fun m18 : (List api_Cert) => ([(500, some (.know (globF 0 [82, 122, 123]))), (501, some (.know (globF 1 [77, 124, 125]))), (3008, some (we_api_Cert_33_6 m18))] : OL)) (fun m18 h E' O' hmat => ?_) (fun j19 hjj19 h => ?_)
  ·apply seqQ_n
   refine AWp.ghost hmat ?_
   apply AWp.seq
   refine AWp.ghost (Mat.freezeP (n := 3008) (e := 33) (sz := 6) (es := m18.map e_api_Cert) (Ts := [(8, (qe_api_Cert_6 m18))]) (Bs := []) (by rfl) (TwT.cons (x := (.sref 3008 6 0 m18.length)) (by rfl) (FrzL.all (by first | rfl | (simp; done) | (simp; omega) | omega)) TwT.nil) TwB.nil) ?_
   obtain ⟨r20, hr20, h⟩ := bindS h
   refine AWp.region (oc (mv hN (ot 8 (qe_api_Cert_6 m18)))
    (oc (OpJ.buildSlice underlying22 tyS3 tyZD3 (by rfl) (by decide) (by decide) (Opds.cons (Opd.int .i64 (1)) Opds.nil) (by kernel_rfl) (es := ([(.int .i64 1)] : List D)) (by rfl) (by rfl) (by kernel_rfl) (by simp) (L rfl))
    (oc (OpJ.callFn hB fnOk9 (origin_Trusted_ac m18 ([(1 : Int)] : List Int) (5 : Int) r20 hr20) [(500, 500), (501, 501)] (by kernel_rfl) (L rfl) (by kernel_rfl) (OpdL.cons (ot 46 (qe_api_Cert_6 m18)) (OpdL.cons (ot 47 (qI_1 ([(1 : Int)] : List Int))) (OpdL.cons (Opd.int .i64 (5)) OpdL.nil))))
    (oc (OpJ.assign (L rfl) (ot 48 (.d (.list 1 (r20.map eB)))))
    (OpJs.nil))))) (by rfl) (by rfl) ?_
   apply seqQ_n
   refine AWp.ghost (mp [] [(8, (qe_api_Cert_6 m18)), (10, (i6 r14)), (11, (.d (.list 1 (r20.map eB))))] [(500, some (.know (globF 0 [82, 122, 123]))), (501, some (.know (globF 1 [77, 124, 125])))] hB) ?_
   apply AWp.seq
   refine sr (c (mv hN (q 11)) rfl (c (OpJ.val (v' := (i6 (r20.length : Int))) (by simp) (OpJ.lenD underlying34 (L rfl) (q 49))) rfl (c (mv hN (q 8)) rfl (c (OpJ.val (v' := (i6 (m18.length : Int))) (by simp) (OpJ.lenD underlying30 (L rfl) (q 51))) rfl (c (OpJ.neqI (L rfl) (q 50) (q 52)) rfl cn))))) ?_
   refine AWp.cond rfl (fun hg21 => ?_) (fun hg21 => ?_)
   ·replace h := ite_t hg21 h
    refine sr (c (OpJ.assign (L rfl) (Opd.bool false)) rfl cn) ?_
    apply AWp.ret
    apply seqQ_r
    obtain rfl := Option.some.inj h
    exact ⟨.inl rfl, _, _, (kp [(6, _)] [(500, some _), (501, some _)] hB rfl rfl (by rfl)), [(bo false)], (Res.tmp (by rfl) (by rfl) Res.nil), rfl, by rfl, by rfl, by rfl⟩
   ·replace h := ite_f hg21 h
    apply AWp.skip
    apply seqQ_n
    apply AWp.seq
    refine sr (c (mv hN (q 11)) rfl (c (OpJ.val (v' := (i6 (r20.length : Int))) (by simp) (OpJ.lenD underlying34 (L rfl) (q 54))) rfl (c (mv hN (Opd.int .i64 (0))) rfl cn))) ?_
    apply AWp.block
    obtain ⟨x34, hx35, h⟩ := bindS h
    refine lg (exchangepointlaw22_OriginChains_L1 r14 r20) (fun s22 : Int => ([(10, (i6 r14)), (54, (.d (.list 1 (r20.map eB)))), (55, (i6 (r20.length : Int))), (56, (i6 s22))] : EL)) (fun s22 : Int => ([(500, some (.know (globF 0 [82, 122, 123]))), (501, some (.know (globF 1 [77, 124, 125])))] : OL)) (fun (x : (Unit) ⊕ (Unit)) e E' O' => match x with | (.inl _p) => e = .ret ∧ Mat B E' O' ([(6, (bo false))] : EL) ([(500, some (.know (globF 0 [82, 122, 123]))), (501, some (.know (globF 1 [77, 124, 125])))] : OL) | (.inr _p) => e = .exit 2 ∧ Mat B E' O' ([] : EL) ([(500, some (.know (globF 0 [82, 122, 123]))), (501, some (.know (globF 1 [77, 124, 125])))] : OL)) hx35 (mp [] _ _ hB) (fun s22 y h => ?_) (fun e E' O' hR => ?_)
    ·unfold exchangepointlaw22_OriginChains_L1 at h
     refine sr (c (OpJ.lss (L rfl) (q 56) (q 55)) rfl cn) ?_
     apply AWp.seq
     refine AWp.cond rfl (fun hg31 => ?_) (fun hg31 => ?_)
     ·replace h := ite_t hg31 h
      apply AWp.skip
      apply seqQ_n
      apply AWp.seq
      apply AWp.block
      obtain ⟨x32, hx32, h⟩ := bindS h
      refine sr (c (mv hN (q 56)) rfl (c (OpJ.indexD underlying34 tyS4 (idx_some hx32).1 (get_map eB (idx_some hx32).2) (L rfl) (q 54) (q 56)) rfl (c (OpJ.loadD tyS4 (by rfl) (by rfl) (L rfl) (q 59)) rfl (c (OpJ.assign (L rfl) (q 58)) rfl (c (OpJ.assign (L rfl) (q 60)) rfl cn))))) ?_
      refine sr (c (mv hN (q 13)) rfl (c (mv hN (q 12)) rfl (c (OpJ.lss (L rfl) (q 62) (Opd.int .i64 (16))) rfl (c (mv hN (q 63)) rfl (c (oq hN 64 (mv hN (q 12)) (OptL.keep (by rfl) OptL.nil) (GuardV.plain _)) rfl (c (oq hN 64 (mv hN (q 10)) (OptL.keep (by rfl) OptL.nil) (GuardV.plain _)) rfl (c (oq hN 64 (OpJ.lss (L rfl) (q 65) (q 66)) (OptL.opt (OptL.opt OptL.nil)) (GuardV.plain _)) rfl (c (OpJ.pickAnd rfl (L rfl) (q 64) (q 67)) rfl (c (OpJ.neqB underlying4 (L rfl) (q 61) (q 68)) rfl cn))))))))) ?_
      refine AWp.cond rfl (fun hg33 => ?_) (fun hg33 => ?_)
      ·replace h := ite_t hg33 h
       refine sr (c (OpJ.assign (L rfl) (Opd.bool false)) rfl cn) ?_
       apply AWp.ret
       apply blkQ_r
       apply seqQ_r
       obtain rfl := Option.some.inj h
       exact ⟨(fun hc => by cases hc), rfl, (mp [] _ _ hB)⟩
      ·replace h := ite_f hg33 h
       apply AWp.skip
       apply blkQ_n
       apply seqQ_n
       refine rg (c (add6 (L rfl) (q 56) (Opd.int .i64 (1))) rfl (c (mv hN (q 70)) rfl cn)) ?_
       obtain rfl := Option.some.inj h
       exact ⟨rfl, (mp [] _ _ hB)⟩
     ·replace h := ite_f hg31 h
      apply AWp.exit
      apply seqQ_e
      obtain rfl := Option.some.inj h
      exact ⟨(fun hc => by cases hc), rfl, (mp [] _ _ hB)⟩
    ·rcases x34 with _ | _
     ·obtain ⟨rfl, hmat⟩ := hR
      apply blkQ_r
      apply seqQ_r
      obtain rfl := Option.some.inj h
      exact ⟨.inl rfl, _, _, (Mat.trans hmat (mp [] [(6, (bo false))] [(500, some (.know (globF 0 [82, 122, 123]))), (501, some (.know (globF 1 [77, 124, 125])))] hB)), [(bo false)], (Res.tmp (by rfl) (by rfl) Res.nil), rfl, by rfl, by rfl, by rfl⟩
     ·obtain ⟨rfl, hmat⟩ := hR
      apply blkQ_hit
      apply seqQ_n
      refine AWp.ghost hmat ?_
      apply AWp.seq
      obtain ⟨r36, hr36, h⟩ := bindS h
      refine AWp.region (oc (OpJ.callFn hB fnOk10 (exchangepointlaw22_awake_ac  r36 hr36) [(500, 500), (501, 501)] (by kernel_rfl) (L rfl) (by kernel_rfl) OpdL.nil)
       (oc (OpJ.assign (L rfl) (ot 71 (bo r36)))
       (OpJs.nil))) (by rfl) (by rfl) ?_
      apply seqQ_n
      refine AWp.ghost (mp [] [(6, (bo r36))] [(500, some (.know (globF 0 [82, 122, 123]))), (501, some (.know (globF 1 [77, 124, 125])))] hB) ?_
      apply AWp.ret
      obtain rfl := Option.some.inj h
      exact ⟨.inl rfl, _, _, (kp [(6, _)] [(500, some _), (501, some _)] hB rfl rfl (by rfl)), [(bo r36)], (Res.tmp (by rfl) (by rfl) Res.nil), rfl, by rfl, by rfl, by rfl⟩
  ·refine AWp.cond rfl (fun hg37 => ?_) (fun hg37 => ?_)
   ·replace h := ite_t hg37 h
    obtain ⟨x38, hx38, h⟩ := bindS h
    obtain ⟨x39, hx39, h⟩ := bindS h
    refine rg (c (mv hN (q 8)) rfl (c (mv hN (q 10)) rfl (c (OpJ.val (v' := (.ptr 3008 (r14.toNat * 6) [r14.toNat])) (by simp) (OpJ.indexS underlying30 tyS33 (idx_some hx38).1 (by have := idx_lt hx38; first | (simpa using this) | ((try simp only [List.length_map] at this); (try simp only [List.length_map]); omega)) (L rfl) (q 42) (q 43))) rfl (c (ov (.ptr 3008 ((r14.toNat * 6) + 3) [r14.toNat, 3]) (fp hN underlying33 3 tyS3 _ (q 44))) rfl (cg (OpJ.storeR (e := 33) (sz := 6) (es' := (p9.set r14.toNat (api_Cert.mk x39.fKey x39.fIssuer x39.fFrom (3 : Int) x39.fResources)).map e_api_Cert) tyS3 (get_map e_api_Cert (idx_some hx39).2) (o := 3) (SetAt.dst1 (by rfl) (by rfl) (SetAt.here _ _) (by rfl) (by rfl) (by first | rfl | omega)) (by rfl) (map_set _ _ _ _) (by rfl) (by rfl) (q 45) (Opd.int .i64 (3))) rfl cn))))) ?_
    exact hjj19 _ h _ _ (Mat.trans (mp [] [(8, (.sref 3008 6 0 p9.length)), (10, (i6 r14))] [(500, some (.know (globF 0 [82, 122, 123]))), (501, some (.know (globF 1 [77, 124, 125]))), (3008, some (we_api_Cert_33_6 (p9.set r14.toNat (api_Cert.mk x39.fKey x39.fIssuer x39.fFrom (3 : Int) x39.fResources))))] hB) (Mat.trans (Mat.lenP (Ts := [(8, (.sref 3008 6 0 ((p9.set r14.toNat (api_Cert.mk x39.fKey x39.fIssuer x39.fFrom (3 : Int) x39.fResources)).length)))]) (Bs := []) (TwT.cons (x := (.sref 3008 6 0 p9.length)) (by rfl) (Tw.leaf ⟨_, _, _, _, _, rfl, rfl, (by first | rfl | (simp; done) | (simp; omega) | omega)⟩) TwT.nil) TwB.nil) (mp [] _ _ hB)))
   ·replace h := ite_f hg37 h
    apply AWp.skip
    exact hjj19 _ h _ _ (mp [] _ _ hB)
end Go.Proofs.YtgfoabcickjphaaDoor

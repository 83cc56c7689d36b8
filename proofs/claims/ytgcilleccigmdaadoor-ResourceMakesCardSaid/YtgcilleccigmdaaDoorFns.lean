/- Printed by gen.py: the Go functions as plain functions, and that the code does what they say. -/
import Derived.Test.YtgcilleccigmdaaDoorChecked
import Derived.Test.YtgcilleccigmdaaDoorVcYB
import Derived.Test.YtgcilleccigmdaaDoorVcZ
import Derived.KernelRfl
import Derived.Test.YtgcilleccigmdaaDoorVcMD
import Derived.Test.YtgcilleccigmdaaDoorVcMQ
import Derived.Test.YtgcilleccigmdaaDoorVcSG
import Derived.Test.YtgcilleccigmdaaDoorFnsC
import Derived.Test.YtgcilleccigmdaaDoorExt
import Derived.Test.YtgcilleccigmdaaDoorVcGl
import Derived.Test.YtgcilleccigmdaaDoorVcSO
namespace Go.Proofs.YtgcilleccigmdaaDoor
open Go Go.Vc
noncomputable def exchangepointref21_Same_L0 (a0 : api_Resources) (a1 : api_Resources) (s2 : Int) : Option (((Unit) ⊕ (Unit)) ⊕ (Int)) :=
  (if (decide (s2 < (a0.fAddrs.length : Int))) = true then
  (idx a0.fAddrs s2).bind fun x14 =>
  (idx a1.fAddrs s2).bind fun x15 =>
  (if (!(((x15.fFrom.fV6 == x14.fFrom.fV6) && ((x15.fFrom.fHi == x14.fFrom.fHi) && ((x15.fFrom.fLo == x14.fFrom.fLo) && true))) && (((x15.fTo.fV6 == x14.fTo.fV6) && ((x15.fTo.fHi == x14.fTo.fHi) && ((x15.fTo.fLo == x14.fTo.fLo) && true))) && true))) = true then
  some (.inl (.inl ()))
  else
  some (.inr (w64 (s2 + (1 : Int)))))
  else
  some (.inl (.inr ())))
noncomputable def exchangepointref21_Same_L1 (a0 : api_Resources) (a1 : api_Resources) (s19 : Int) : Option (((Unit) ⊕ (Unit)) ⊕ (Int)) :=
  (if (decide (s19 < (a0.fASNs.length : Int))) = true then
  (idx a0.fASNs s19).bind fun x31 =>
  (idx a1.fASNs s19).bind fun x32 =>
  (if (!((x32.fFrom == x31.fFrom) && ((x32.fTo == x31.fTo) && true))) = true then
  some (.inl (.inl ()))
  else
  some (.inr (w64 (s19 + (1 : Int)))))
  else
  some (.inl (.inr ())))
noncomputable def exchangepointref21_Same (a0 : api_Resources) (a1 : api_Resources) : Option (Bool) :=
  (if (((a0.fAddrs.length : Int) != (a1.fAddrs.length : Int)) || ((a0.fASNs.length : Int) != (a1.fASNs.length : Int))) = true then
  some false
  else
  (loop (exchangepointref21_Same_L0 a0 a1) (0 : Int)).bind fun x17 => match x17 with
  | (.inl _) =>
    some false
  | (.inr _) =>
    (loop (exchangepointref21_Same_L1 a0 a1) (0 : Int)).bind fun x34 => match x34 with
    | (.inl _) =>
      some false
    | (.inr _) =>
      some true)
set_option maxHeartbeats 4000000 in
set_option maxRecDepth 100000 in
theorem exchangepointref21_Same_ac (a0 : api_Resources) (a1 : api_Resources) (r : Bool) (h : exchangepointref21_Same a0 a1 = some r) : AC Tryd.prog 25 [(.d (e_api_Resources a0)), (.d (e_api_Resources a1))] [] (.d (.bool r)) [] := by
  refine AC.of_code2 Tryd.func25 rfl rfl (Nat.le_of_ble_eq_true (by rfl)) fun B hB hN => ?_
  have L {d : Nat} (h : Nat.blt d Tryd.f25.ntmps = true) : d < B.N := ltN hN h
  delta exchangepointref21_Same at h
  refine sr (cg (OpJ.box hB (nm := 1002) (by decide) (by simp) rfl (L rfl) (q 0)) rfl (cg (OpJ.box hB (nm := 1003) (by decide) (by simp) rfl (L rfl) (q 1)) rfl (c (OpJ.assign (L rfl) (Opd.bool false)) rfl cn))) ?_
  refine gh [(2, _), (3, _)] [(1002, some _), (1003, some _)] hB rfl rfl (by rfl) ?_
  refine AWp.seq ?_
  refine sr (c (ov (.ptr 1002 0 [0]) (fp hN Tryd.underlying28 0 tyS25 _ (q 2))) rfl (c (lb hN 28 _ _ tyS25 (ad _) (q 9)) rfl (c (OpJ.val (v' := (i6 (a0.fAddrs.length : Int))) (by simp) (OpJ.lenD Tryd.underlying25 (L rfl) (q 10))) rfl (c (ov (.ptr 1003 0 [0]) (fp hN Tryd.underlying28 0 tyS25 _ (q 3))) rfl (c (lb hN 28 _ _ tyS25 (ad _) (q 12)) rfl (c (OpJ.val (v' := (i6 (a1.fAddrs.length : Int))) (by simp) (OpJ.lenD Tryd.underlying25 (L rfl) (q 13))) rfl (c (OpJ.neqI (L rfl) (q 11) (q 14)) rfl (c (mv hN (q 15)) rfl (c (oq hN 16 (ov (.ptr 1002 1 [1]) (fp hN Tryd.underlying28 1 tyS26 _ (q 2))) (OptL.keep (by rfl) OptL.nil) (GuardV.plain _)) rfl (c (oq hN 16 (lb hN 28 _ _ tyS26 (ad _) (q 17)) (OptL.opt OptL.nil) (GuardV.plain _)) rfl (c (oq hN 16 (OpJ.val (v' := (i6 (a0.fASNs.length : Int))) (by simp) (OpJ.lenD Tryd.underlying26 (L rfl) (q 18))) (OptL.opt OptL.nil) (GuardV.plain _)) rfl (c (oq hN 16 (ov (.ptr 1003 1 [1]) (fp hN Tryd.underlying28 1 tyS26 _ (q 3))) (OptL.keep (by rfl) OptL.nil) (GuardV.plain _)) rfl (c (oq hN 16 (lb hN 28 _ _ tyS26 (ad _) (q 20)) (OptL.opt OptL.nil) (GuardV.plain _)) rfl (c (oq hN 16 (OpJ.val (v' := (i6 (a1.fASNs.length : Int))) (by simp) (OpJ.lenD Tryd.underlying26 (L rfl) (q 21))) (OptL.opt OptL.nil) (GuardV.plain _)) rfl (c (oq hN 16 (OpJ.neqI (L rfl) (q 19) (q 22)) (OptL.opt (OptL.opt OptL.nil)) (GuardV.plain _)) rfl (c (OpJ.pickOr rfl (L rfl) (q 16) (q 23)) rfl cn)))))))))))))))) ?_
  refine gh [(2, _), (3, _), (24, _)] [(1002, some _), (1003, some _)] hB rfl rfl (by rfl) ?_
  refine AWp.cond rfl (fun hg1 => ?_) (fun hg1 => ?_)
  · replace h := ite_t hg1 h
    refine sr (c (OpJ.assign (L rfl) (Opd.bool false)) rfl cn) ?_
    refine gh [(4, _)] [] hB rfl rfl (by rfl) ?_
    refine AWp.ret ?_
    refine seqQ_r ?_
    obtain rfl := Option.some.inj h
    exact ⟨.inl rfl, _, _, (kp [(4, _)] [] hB rfl rfl (by rfl)), [(bo false)], (Res.tmp (by rfl) (by rfl) Res.nil), rfl, by rfl, by rfl, by rfl⟩
  · replace h := ite_f hg1 h
    refine AWp.skip ?_
    refine seqQ_n ?_
    refine AWp.seq ?_
    refine sr (c (ov (.ptr 1002 0 [0]) (fp hN Tryd.underlying28 0 tyS25 _ (q 2))) rfl (c (lb hN 28 _ _ tyS25 (ad _) (q 25)) rfl (c (OpJ.val (v' := (i6 (a0.fAddrs.length : Int))) (by simp) (OpJ.lenD Tryd.underlying25 (L rfl) (q 26))) rfl (c (mv hN (Opd.int .i64 (0))) rfl cn)))) ?_
    refine gh [(2, _), (3, _), (26, _), (27, _), (28, _)] [(1002, some _), (1003, some _)] hB rfl rfl (by rfl) ?_
    refine AWp.block ?_
    obtain ⟨x17, hx18, h⟩ := bindS h
    refine lg (exchangepointref21_Same_L0 a0 a1) (fun s2 : Int => ([(2, (.ptr 1002 0 [])), (3, (.ptr 1003 0 [])), (26, (qe_api_Range_6 a0.fAddrs)), (27, (i6 (a0.fAddrs.length : Int))), (28, (i6 s2))] : EL)) (fun s2 : Int => ([(1002, some (.box 28 (.d (e_api_Resources a0)))), (1003, some (.box 28 (.d (e_api_Resources a1))))] : OL)) (fun (x : (Unit) ⊕ (Unit)) e E' O' => match x with | (.inl _p) => e = .ret ∧ Mat B E' O' ([(4, (bo false))] : EL) ([] : OL) | (.inr _p) => e = .exit 0 ∧ Mat B E' O' ([(2, (.ptr 1002 0 [])), (3, (.ptr 1003 0 []))] : EL) ([(1002, some (.box 28 (.d (e_api_Resources a0)))), (1003, some (.box 28 (.d (e_api_Resources a1))))] : OL)) hx18 (mp [] _ _ hB) (fun s2 y h => ?_) (fun e E' O' hR => ?_)
    · unfold exchangepointref21_Same_L0 at h
      refine sr (c (OpJ.lss (L rfl) (q 28) (q 27)) rfl cn) ?_
      refine gh [(2, _), (3, _), (26, _), (27, _), (28, _), (29, _)] [(1002, some _), (1003, some _)] hB rfl rfl (by rfl) ?_
      refine AWp.seq ?_
      refine AWp.cond rfl (fun hg13 => ?_) (fun hg13 => ?_)
      · replace h := ite_t hg13 h
        refine AWp.skip ?_
        refine seqQ_n ?_
        refine AWp.seq ?_
        refine AWp.block ?_
        obtain ⟨x14, hx14, h⟩ := bindS h
        refine sr (c (mv hN (q 28)) rfl (c (OpJ.indexD Tryd.underlying25 tyS68 (idx_some hx14).1 (get_map e_api_Range (idx_some hx14).2) (L rfl) (q 26) (q 28)) rfl (c (OpJ.loadD tyS68 (by rfl) (by rfl) (L rfl) (q 31)) rfl (cg (OpJ.alloc hB tyZ68 (nm := 1006) (by decide) (L rfl)) rfl (c (OpJ.assign (L rfl) (q 30)) rfl (cg (OpJ.storeB tyS68 (SetAt.here _ _) (by rfl) (by rfl) (by simp) rfl (q 6) (q 32)) rfl cn)))))) ?_
        refine gh [(2, _), (3, _), (5, _), (6, _), (26, _), (27, _), (28, _)] [(1002, some _), (1003, some _), (1006, some _)] hB rfl rfl (by rfl) ?_
        obtain ⟨x15, hx15, h⟩ := bindS h
        refine sd (c (ov (.ptr 1003 0 [0]) (fp hN Tryd.underlying28 0 tyS25 _ (q 3))) rfl (c (lb hN 28 _ _ tyS25 (ad _) (q 33)) rfl (c (mv hN (q 5)) rfl (c (OpJ.indexD Tryd.underlying25 tyS68 (idx_some hx15).1 (get_map e_api_Range (idx_some hx15).2) (L rfl) (q 34) (q 35)) rfl (c (OpJ.loadD tyS68 (by rfl) (by rfl) (L rfl) (q 36)) rfl (c (lb hN 68 _ _ tyS68 (At.here _) (q 6)) rfl (c (OpJ.neqD (h := 3) (FitE.st Tryd.underlying68 rfl held68 (FitF.cons (x := (e_api_Addr x15.fFrom)) (y := (e_api_Addr x14.fFrom)) (by decide) rfl tyS32 ⟨rfl, rfl⟩ ⟨rfl, rfl⟩ (FitE.st Tryd.underlying32 rfl held32 (FitF.cons (x := (.bool x15.fFrom.fV6)) (y := (.bool x14.fFrom.fV6)) (by decide) rfl tyS4 ⟨rfl, rfl⟩ ⟨rfl, rfl⟩ (FitE.bool (h := 0) x15.fFrom.fV6 x14.fFrom.fV6 Tryd.underlying4) (FitF.cons (x := (.int .u64 x15.fFrom.fHi)) (y := (.int .u64 x14.fFrom.fHi)) (by decide) rfl tyS30 ⟨rfl, rfl⟩ ⟨rfl, rfl⟩ (FitE.int (h := 0) x15.fFrom.fHi x14.fFrom.fHi Tryd.underlying30) (FitF.cons (x := (.int .u64 x15.fFrom.fLo)) (y := (.int .u64 x14.fFrom.fLo)) (by decide) rfl tyS30 ⟨rfl, rfl⟩ ⟨rfl, rfl⟩ (FitE.int (h := 0) x15.fFrom.fLo x14.fFrom.fLo Tryd.underlying30) FitF.nil)))) (FitF.cons (x := (e_api_Addr x15.fTo)) (y := (e_api_Addr x14.fTo)) (by decide) rfl tyS32 ⟨rfl, rfl⟩ ⟨rfl, rfl⟩ (FitE.st Tryd.underlying32 rfl held32 (FitF.cons (x := (.bool x15.fTo.fV6)) (y := (.bool x14.fTo.fV6)) (by decide) rfl tyS4 ⟨rfl, rfl⟩ ⟨rfl, rfl⟩ (FitE.bool (h := 0) x15.fTo.fV6 x14.fTo.fV6 Tryd.underlying4) (FitF.cons (x := (.int .u64 x15.fTo.fHi)) (y := (.int .u64 x14.fTo.fHi)) (by decide) rfl tyS30 ⟨rfl, rfl⟩ ⟨rfl, rfl⟩ (FitE.int (h := 0) x15.fTo.fHi x14.fTo.fHi Tryd.underlying30) (FitF.cons (x := (.int .u64 x15.fTo.fLo)) (y := (.int .u64 x14.fTo.fLo)) (by decide) rfl tyS30 ⟨rfl, rfl⟩ ⟨rfl, rfl⟩ (FitE.int (h := 0) x15.fTo.fLo x14.fTo.fLo Tryd.underlying30) FitF.nil)))) FitF.nil))) eqg68 ⟨rfl, rfl⟩ (by rfl) (L rfl) (q 37) (q 38)) rfl cn))))))) (by kernel_rfl) (by kernel_rfl) ?_
        refine gh [(2, _), (3, _), (26, _), (27, _), (28, _), (39, _)] [(1002, some _), (1003, some _)] hB rfl rfl (by rfl) ?_
        refine AWp.cond rfl (fun hg16 => ?_) (fun hg16 => ?_)
        · replace h := ite_t hg16 h
          refine sr (c (OpJ.assign (L rfl) (Opd.bool false)) rfl cn) ?_
          refine gh [(4, _)] [] hB rfl rfl (by rfl) ?_
          refine AWp.ret ?_
          refine blkQ_r ?_
          refine seqQ_r ?_
          obtain rfl := Option.some.inj h
          exact ⟨(fun hc => by cases hc), rfl, (mp [] _ _ hB)⟩
        · replace h := ite_f hg16 h
          refine AWp.skip ?_
          refine blkQ_n ?_
          refine seqQ_n ?_
          refine rg (c (add6 (L rfl) (q 28) (Opd.int .i64 (1))) rfl (c (mv hN (q 40)) rfl cn)) ?_
          obtain rfl := Option.some.inj h
          exact ⟨rfl, (Mat.trans (mp [] [(2, (.ptr 1002 0 [])), (3, (.ptr 1003 0 [])), (26, (qe_api_Range_6 a0.fAddrs)), (27, (i6 (a0.fAddrs.length : Int))), (28, (i6 (w64 (s2 + (1 : Int)))))] [(1002, some (.box 28 (.d (e_api_Resources a0)))), (1003, some (.box 28 (.d (e_api_Resources a1))))] hB) (mp [] _ _ hB))⟩
      · replace h := ite_f hg13 h
        refine AWp.exit ?_
        refine seqQ_e ?_
        obtain rfl := Option.some.inj h
        exact ⟨(fun hc => by cases hc), rfl, (mp [] _ _ hB)⟩
    · rcases x17 with _ | _
      · obtain ⟨rfl, hmat⟩ := hR
        refine blkQ_r ?_
        refine seqQ_r ?_
        obtain rfl := Option.some.inj h
        exact ⟨.inl rfl, _, _, (Mat.trans hmat (mp [] [(4, (bo false))] [] hB)), [(bo false)], (Res.tmp (by rfl) (by rfl) Res.nil), rfl, by rfl, by rfl, by rfl⟩
      · obtain ⟨rfl, hmat⟩ := hR
        refine blkQ_hit ?_
        refine seqQ_n ?_
        refine AWp.ghost hmat ?_
        refine AWp.seq ?_
        refine sr (c (ov (.ptr 1002 1 [1]) (fp hN Tryd.underlying28 1 tyS26 _ (q 2))) rfl (c (lb hN 28 _ _ tyS26 (ad _) (q 41)) rfl (c (OpJ.val (v' := (i6 (a0.fASNs.length : Int))) (by simp) (OpJ.lenD Tryd.underlying26 (L rfl) (q 42))) rfl (c (mv hN (Opd.int .i64 (0))) rfl cn)))) ?_
        refine gh [(3, _), (42, _), (43, _), (44, _)] [(1003, some _)] hB rfl rfl (by rfl) ?_
        refine AWp.block ?_
        obtain ⟨x34, hx35, h⟩ := bindS h
        refine lg (exchangepointref21_Same_L1 a0 a1) (fun s19 : Int => ([(3, (.ptr 1003 0 [])), (42, (qe_api_Span_2 a0.fASNs)), (43, (i6 (a0.fASNs.length : Int))), (44, (i6 s19))] : EL)) (fun s19 : Int => ([(1003, some (.box 28 (.d (e_api_Resources a1))))] : OL)) (fun (x : (Unit) ⊕ (Unit)) e E' O' => match x with | (.inl _p) => e = .ret ∧ Mat B E' O' ([(4, (bo false))] : EL) ([] : OL) | (.inr _p) => e = .exit 2 ∧ Mat B E' O' ([] : EL) ([] : OL)) hx35 (mp [] _ _ hB) (fun s19 y h => ?_) (fun e E' O' hR => ?_)
        · unfold exchangepointref21_Same_L1 at h
          refine sr (c (OpJ.lss (L rfl) (q 44) (q 43)) rfl cn) ?_
          refine gh [(3, _), (42, _), (43, _), (44, _), (45, _)] [(1003, some _)] hB rfl rfl (by rfl) ?_
          refine AWp.seq ?_
          refine AWp.cond rfl (fun hg30 => ?_) (fun hg30 => ?_)
          · replace h := ite_t hg30 h
            refine AWp.skip ?_
            refine seqQ_n ?_
            refine AWp.seq ?_
            refine AWp.block ?_
            obtain ⟨x31, hx31, h⟩ := bindS h
            refine sr (c (mv hN (q 44)) rfl (c (OpJ.indexD Tryd.underlying26 tyS48 (idx_some hx31).1 (get_map e_api_Span (idx_some hx31).2) (L rfl) (q 42) (q 44)) rfl (c (OpJ.loadD tyS48 (by rfl) (by rfl) (L rfl) (q 47)) rfl (cg (OpJ.alloc hB tyZ48 (nm := 1008) (by decide) (L rfl)) rfl (c (OpJ.assign (L rfl) (q 46)) rfl (cg (OpJ.storeB tyS48 (SetAt.here _ _) (by rfl) (by rfl) (by simp) rfl (q 8) (q 48)) rfl cn)))))) ?_
            refine gh [(3, _), (7, _), (8, _), (42, _), (43, _), (44, _)] [(1003, some _), (1008, some _)] hB rfl rfl (by rfl) ?_
            obtain ⟨x32, hx32, h⟩ := bindS h
            refine sd (c (ov (.ptr 1003 1 [1]) (fp hN Tryd.underlying28 1 tyS26 _ (q 3))) rfl (c (lb hN 28 _ _ tyS26 (ad _) (q 49)) rfl (c (mv hN (q 7)) rfl (c (OpJ.indexD Tryd.underlying26 tyS48 (idx_some hx32).1 (get_map e_api_Span (idx_some hx32).2) (L rfl) (q 50) (q 51)) rfl (c (OpJ.loadD tyS48 (by rfl) (by rfl) (L rfl) (q 52)) rfl (c (lb hN 48 _ _ tyS48 (At.here _) (q 8)) rfl (c (OpJ.neqD (h := 2) (FitE.st Tryd.underlying48 rfl held48 (FitF.cons (x := (.int .i64 x32.fFrom)) (y := (.int .i64 x31.fFrom)) (by decide) rfl tyS3 ⟨rfl, rfl⟩ ⟨rfl, rfl⟩ (FitE.int (h := 0) x32.fFrom x31.fFrom Tryd.underlying3) (FitF.cons (x := (.int .i64 x32.fTo)) (y := (.int .i64 x31.fTo)) (by decide) rfl tyS3 ⟨rfl, rfl⟩ ⟨rfl, rfl⟩ (FitE.int (h := 0) x32.fTo x31.fTo Tryd.underlying3) FitF.nil))) eqg48 ⟨rfl, rfl⟩ (by rfl) (L rfl) (q 53) (q 54)) rfl cn))))))) (by kernel_rfl) (by kernel_rfl) ?_
            refine gh [(3, _), (42, _), (43, _), (44, _), (55, _)] [(1003, some _)] hB rfl rfl (by rfl) ?_
            refine AWp.cond rfl (fun hg33 => ?_) (fun hg33 => ?_)
            · replace h := ite_t hg33 h
              refine sr (c (OpJ.assign (L rfl) (Opd.bool false)) rfl cn) ?_
              refine gh [(4, _)] [] hB rfl rfl (by rfl) ?_
              refine AWp.ret ?_
              refine blkQ_r ?_
              refine seqQ_r ?_
              obtain rfl := Option.some.inj h
              exact ⟨(fun hc => by cases hc), rfl, (mp [] _ _ hB)⟩
            · replace h := ite_f hg33 h
              refine AWp.skip ?_
              refine blkQ_n ?_
              refine seqQ_n ?_
              refine rg (c (add6 (L rfl) (q 44) (Opd.int .i64 (1))) rfl (c (mv hN (q 56)) rfl cn)) ?_
              obtain rfl := Option.some.inj h
              exact ⟨rfl, (Mat.trans (mp [] [(3, (.ptr 1003 0 [])), (42, (qe_api_Span_2 a0.fASNs)), (43, (i6 (a0.fASNs.length : Int))), (44, (i6 (w64 (s19 + (1 : Int)))))] [(1003, some (.box 28 (.d (e_api_Resources a1))))] hB) (mp [] _ _ hB))⟩
          · replace h := ite_f hg30 h
            refine AWp.exit ?_
            refine seqQ_e ?_
            obtain rfl := Option.some.inj h
            exact ⟨(fun hc => by cases hc), rfl, (mp [] _ _ hB)⟩
        · rcases x34 with _ | _
          · obtain ⟨rfl, hmat⟩ := hR
            refine blkQ_r ?_
            refine seqQ_r ?_
            obtain rfl := Option.some.inj h
            exact ⟨.inl rfl, _, _, (Mat.trans hmat (mp [] [(4, (bo false))] [] hB)), [(bo false)], (Res.tmp (by rfl) (by rfl) Res.nil), rfl, by rfl, by rfl, by rfl⟩
          · obtain ⟨rfl, hmat⟩ := hR
            refine blkQ_hit ?_
            refine seqQ_n ?_
            refine AWp.ghost hmat ?_
            refine sr (c (OpJ.assign (L rfl) (Opd.bool true)) rfl cn) ?_
            refine gh [(4, _)] [] hB rfl rfl (by rfl) ?_
            refine AWp.ret ?_
            obtain rfl := Option.some.inj h
            exact ⟨.inl rfl, _, _, (kp [(4, _)] [] hB rfl rfl (by rfl)), [(bo true)], (Res.tmp (by rfl) (by rfl) Res.nil), rfl, by rfl, by rfl, by rfl⟩

noncomputable def exchangepointlaw21_ResourceMakes_L0 (a0 : api_Resources) (r5 : api_Resources × exchangepointmake_Deck) (r6 : api_Resources) (s7 : Int) : Option (((Unit) ⊕ (Unit)) ⊕ (Int)) :=
  (if (decide (s7 < (([a0, r5.1, r6] : List api_Resources).length : Int))) = true then
  (idx ([a0, r5.1, r6] : List api_Resources) s7).bind fun x21 =>
  (resource_Valid x21).bind fun r22 =>
  (exchangepointref21_Valid x21).bind fun r23 =>
  (if (r22 != r23) = true then
  some (.inl (.inl ()))
  else
  some (.inr (w64 (s7 + (1 : Int)))))
  else
  some (.inl (.inr ())))
noncomputable def exchangepointlaw21_ResourceMakes_L1 (r27 : Int) (s28 : Int × (List api_Prefix)) : Option ((((List api_Prefix))) ⊕ (Int × (List api_Prefix))) :=
  (if (decide (s28.1 < (w64 ((255 : Int) + r27)))) = true then
  chk (decide ((s28.2 ++ ([(api_Prefix.mk (api_Addr.mk false (0 : Int) (IntKind.u64.wrap (w64 ((2 : Int) * s28.1)))) (32 : Int))] : List api_Prefix)).length ≤ LIM)) <|
  some (.inr ((w64 (s28.1 + (1 : Int))), (s28.2 ++ ([(api_Prefix.mk (api_Addr.mk false (0 : Int) (IntKind.u64.wrap (w64 ((2 : Int) * s28.1)))) (32 : Int))] : List api_Prefix))))
  else
  some (.inl s28.2))
noncomputable def exchangepointlaw21_ResourceMakes_L3 (a2 : (List api_Span)) (r42 : Int × exchangepointmake_Deck) (r43 : Int × exchangepointmake_Deck) (r44 : Int × exchangepointmake_Deck) (r45 : Int) (r46 : Int) (x105 : (List api_Prefix)) (s107 : Int) : Option (((Unit) ⊕ (Unit)) ⊕ (Int)) :=
  (if (decide (s107 < (([a2, ([(api_Span.mk r42.1 (w64 ((4 : Int) + r43.1))), (api_Span.mk (w64 ((9 : Int) + r44.1)) (20 : Int)), (api_Span.mk r45 (w64 ((4294967295 : Int) + r46)))] : List api_Span), ((([(api_Span.mk r42.1 (w64 ((4 : Int) + r43.1))), (api_Span.mk (w64 ((9 : Int) + r44.1)) (20 : Int)), (api_Span.mk r45 (w64 ((4294967295 : Int) + r46)))] : List api_Span).take 2).drop 0)] : List (List api_Span)).length : Int))) = true then
  (idx ([a2, ([(api_Span.mk r42.1 (w64 ((4 : Int) + r43.1))), (api_Span.mk (w64 ((9 : Int) + r44.1)) (20 : Int)), (api_Span.mk r45 (w64 ((4294967295 : Int) + r46)))] : List api_Span), ((([(api_Span.mk r42.1 (w64 ((4 : Int) + r43.1))), (api_Span.mk (w64 ((9 : Int) + r44.1)) (20 : Int)), (api_Span.mk r45 (w64 ((4294967295 : Int) + r46)))] : List api_Span).take 2).drop 0)] : List (List api_Span)) s107).bind fun x123 =>
  (resource_Of x105 x123).bind fun r124 =>
  (exchangepointref21_Of x105 x123).bind fun r125 =>
  (exchangepointref21_Same r124.1 r125.1).bind fun r126 =>
  (if ((!r126) || (r124.2 != r125.2)) = true then
  some (.inl (.inl ()))
  else
  some (.inr (w64 (s107 + (1 : Int)))))
  else
  some (.inl (.inr ())))
noncomputable def exchangepointlaw21_ResourceMakes_L2 (a1 : (List api_Prefix)) (a2 : (List api_Span)) (p33 : (List api_Prefix)) (r38 : api_Prefix × exchangepointmake_Deck) (r39 : api_Prefix × exchangepointmake_Deck) (r40 : api_Prefix × exchangepointmake_Deck) (r41 : api_Prefix × exchangepointmake_Deck) (r42 : Int × exchangepointmake_Deck) (r43 : Int × exchangepointmake_Deck) (r44 : Int × exchangepointmake_Deck) (r45 : Int) (r46 : Int) (s47 : Int) : Option (((Unit) ⊕ (Unit)) ⊕ (Int)) :=
  (if (decide (s47 < (([a1, ([r38.1, r39.1, r40.1, r41.1] : List api_Prefix), p33] : List (List api_Prefix)).length : Int))) = true then
  (idx ([a1, ([r38.1, r39.1, r40.1, r41.1] : List api_Prefix), p33] : List (List api_Prefix)) s47).bind fun x105 =>
  chk ((decide (0 ≤ (2 : Int)) && decide (0 ≤ 2) && decide (2 ≤ ([(api_Span.mk r42.1 (w64 ((4 : Int) + r43.1))), (api_Span.mk (w64 ((9 : Int) + r44.1)) (20 : Int)), (api_Span.mk r45 (w64 ((4294967295 : Int) + r46)))] : List api_Span).length))) <|
  (loop (exchangepointlaw21_ResourceMakes_L3 a2 r42 r43 r44 r45 r46 x105) (0 : Int)).bind fun x128 => match x128 with
  | (.inl _) =>
    some (.inl (.inl ()))
  | (.inr _) =>
    some (.inr (w64 (s47 + (1 : Int))))
  else
  some (.inl (.inr ())))
noncomputable def exchangepointlaw21_ResourceMakes (a0 : api_Resources) (a1 : (List api_Prefix)) (a2 : (List api_Span)) (a3 : (List Int)) (a4 : Int) (a5 : Int) : Option (Bool) :=
  (exchangepointlaw21_light a0).bind fun r1 =>
  (if (((!r1) || (decide ((40 : Int) < (a1.length : Int)))) || (decide ((40 : Int) < (a2.length : Int)))) = true then
  (exchangepointlaw21_awake).bind fun r3 =>
  some r3
  else
  (exchangepointmake_New a3).bind fun r4 =>
  (exchangepointmake_Deck_Resources r4).bind fun r5 =>
  (exchangepointlaw21_bent r5.1 a4 a5).bind fun r6 =>
  (loop (exchangepointlaw21_ResourceMakes_L0 a0 r5 r6) (0 : Int)).bind fun x25 => match x25 with
  | (.inl _) =>
    some false
  | (.inr _) =>
    (exchangepointmake_Mod a5 (3 : Int)).bind fun r27 =>
    (loop (exchangepointlaw21_ResourceMakes_L1 r27) ((0 : Int), ([] : List api_Prefix))).bind fun p33 =>
    (exchangepointmake_Deck_Prefix r5.2).bind fun r38 =>
    (exchangepointmake_Deck_Prefix r38.2).bind fun r39 =>
    (exchangepointmake_Deck_Prefix r39.2).bind fun r40 =>
    (exchangepointmake_Deck_Prefix r40.2).bind fun r41 =>
    (exchangepointmake_Deck_Next r41.2 (9 : Int)).bind fun r42 =>
    (exchangepointmake_Deck_Next r42.2 (9 : Int)).bind fun r43 =>
    (exchangepointmake_Deck_Next r43.2 (5 : Int)).bind fun r44 =>
    (exchangepointmake_Mod a5 (3 : Int)).bind fun r45 =>
    (exchangepointmake_Mod a4 (2 : Int)).bind fun r46 =>
    (loop (exchangepointlaw21_ResourceMakes_L2 a1 a2 p33 r38 r39 r40 r41 r42 r43 r44 r45 r46) (0 : Int)).bind fun x130 => match x130 with
    | (.inl _) =>
      some false
    | (.inr _) =>
      jn (fun m136 : Bool =>
      some m136) (fun j137 =>
      (resource_Valid r5.1).bind fun r138 =>
      (if r138 = true then
      (exchangepointlaw21_awake).bind fun r140 =>
      j137 r140
      else
      j137 false)))
set_option maxHeartbeats 4000000 in
set_option maxRecDepth 100000 in
theorem exchangepointlaw21_ResourceMakes_ac (a0 : api_Resources) (a1 : (List api_Prefix)) (a2 : (List api_Span)) (a3 : (List Int)) (a4 : Int) (a5 : Int) (r : Bool) (h : exchangepointlaw21_ResourceMakes a0 a1 a2 a3 a4 a5 = some r) : AC Tryd.prog 4 [(.d (e_api_Resources a0)), (.d (.list 4 (a1.map e_api_Prefix))), (.d (.list 2 (a2.map e_api_Span))), (.d (.list 1 (a3.map (eI .i64)))), (.d (.int .i64 a4)), (.d (.int .i64 a5))] [(500, (.know (globF 0 [35, 37, 137]))), (501, (.know (globF 1 [70, 138, 139])))] (.d (.bool r)) [(500, some (.know (globF 0 [35, 37, 137]))), (501, some (.know (globF 1 [70, 138, 139])))] := by
  refine AC.of_code2 Tryd.func4 rfl rfl (Nat.le_of_ble_eq_true (by rfl)) fun B hB hN => ?_
  have L {d : Nat} (h : Nat.blt d Tryd.f4.ntmps = true) : d < B.N := ltN hN h
  delta exchangepointlaw21_ResourceMakes at h
  refine sr (cg (OpJ.box hB (nm := 1006) (by decide) (by simp) rfl (L rfl) (q 0)) rfl (c (OpJ.assign (L rfl) (Opd.bool false)) rfl cn)) ?_
  refine gh [(1, _), (2, _), (3, _), (4, _), (5, _), (6, _)] [(500, some _), (501, some _), (1006, some _)] hB rfl rfl (by rfl) ?_
  refine AWp.seq ?_
  obtain ⟨r1, hr1, h⟩ := bindS h
  refine sr (c (lb hN 28 _ _ tyS28 (At.here _) (q 6)) rfl (cg (OpJ.callFn hB fnOk18 (exchangepointlaw21_light_ac a0 r1 hr1) [] (by kernel_rfl) (L rfl) (by kernel_rfl) (OpdL.cons (q 29) OpdL.nil)) rfl (c (OpJ.not (L rfl) (q 30)) rfl (c (mv hN (q 31)) rfl (c (oq hN 32 (mv hN (q 1)) (OptL.keep (by rfl) OptL.nil) (GuardV.plain _)) rfl (c (oq hN 32 (OpJ.val (v' := (i6 (a1.length : Int))) (by simp) (OpJ.lenD Tryd.underlying36 (L rfl) (q 33))) (OptL.opt OptL.nil) (GuardV.plain _)) rfl (c (oq hN 32 (OpJ.gtr (L rfl) (q 34) (Opd.int .i64 (40))) (OptL.opt OptL.nil) (GuardV.plain _)) rfl (c (OpJ.pickOr rfl (L rfl) (q 32) (q 35)) rfl (c (mv hN (q 36)) rfl (c (oq hN 37 (mv hN (q 2)) (OptL.keep (by rfl) OptL.nil) (GuardV.plain _)) rfl (c (oq hN 37 (OpJ.val (v' := (i6 (a2.length : Int))) (by simp) (OpJ.lenD Tryd.underlying26 (L rfl) (q 38))) (OptL.opt OptL.nil) (GuardV.plain _)) rfl (c (oq hN 37 (OpJ.gtr (L rfl) (q 39) (Opd.int .i64 (40))) (OptL.opt OptL.nil) (GuardV.plain _)) rfl (c (OpJ.pickOr rfl (L rfl) (q 37) (q 40)) rfl cn))))))))))))) ?_
  refine gh [(1, _), (2, _), (3, _), (4, _), (5, _), (6, _), (41, _)] [(500, some _), (501, some _), (1006, some _)] hB rfl rfl (by rfl) ?_
  refine AWp.cond rfl (fun hg2 => ?_) (fun hg2 => ?_)
  · replace h := ite_t hg2 h
    refine AWp.seq ?_
    obtain ⟨r3, hr3, h⟩ := bindS h
    refine AWp.region (oc (OpJ.callFn hB fnOk17 (exchangepointlaw21_awake_ac  r3 hr3) [(500, 500), (501, 501)] (by kernel_rfl) (L rfl) (by kernel_rfl) OpdL.nil)
      (oc (OpJ.assign (L rfl) (ot 42 (bo r3)))
      (OpJs.nil))) (by rfl) (by rfl) ?_
    refine seqQ_n ?_
    refine AWp.ghost (mp [] [(12, (bo r3))] [(500, some (.know (globF 0 [35, 37, 137]))), (501, some (.know (globF 1 [70, 138, 139])))] hB) ?_
    refine AWp.ret ?_
    refine seqQ_r ?_
    obtain rfl := Option.some.inj h
    exact ⟨.inl rfl, _, _, (kp [(12, _)] [(500, some _), (501, some _)] hB rfl rfl (by rfl)), [(bo r3)], (Res.tmp (by rfl) (by rfl) Res.nil), rfl, by rfl, by rfl, by rfl⟩
  · replace h := ite_f hg2 h
    refine AWp.skip ?_
    refine seqQ_n ?_
    refine AWp.seq ?_
    obtain ⟨r4, hr4, h⟩ := bindS h
    refine AWp.region (oc (mv hN (ot 3 (qI_1 a3)))
      (oc (OpJ.callFn hB fnOk7 (exchangepointmake_New_ac a3 r4 hr4) [(1005, 100200)] (by kernel_rfl) (L rfl) (by kernel_rfl) (OpdL.cons (ot 43 (qI_1 a3)) OpdL.nil))
      (oc (OpJ.assign (L rfl) (ot 44 (.ptr 100200 0 [])))
      (OpJs.nil)))) (by rfl) (by rfl) ?_
    refine seqQ_n ?_
    refine AWp.ghost (mp [] [(1, (qe_api_Prefix_4 a1)), (2, (qe_api_Span_2 a2)), (4, (i6 a4)), (5, (i6 a5)), (6, (.ptr 1006 0 [])), (13, (.ptr 100200 0 []))] [(500, some (.know (globF 0 [35, 37, 137]))), (501, some (.know (globF 1 [70, 138, 139]))), (1006, some (.box 28 (.d (e_api_Resources a0)))), (100200, some (.box 64 (.d (e_exchangepointmake_Deck r4))))] hB) ?_
    refine AWp.seq ?_
    obtain ⟨r5, hr5, h⟩ := bindS h
    refine AWp.region (oc (mv hN (ot 13 (.ptr 100200 0 [])))
      (oc (OpJ.callFn hB fnOk8 (exchangepointmake_Deck_Resources_ac r4 r5 hr5) [(0, 100200)] (by kernel_rfl) (L rfl) (by kernel_rfl) (OpdL.cons (ot 45 (.ptr 100200 0 [])) OpdL.nil))
      (oc (OpJ.alloc hB tyZ28 (nm := 1014) (by decide) (L rfl))
      (oc (OpJ.storeB (bt := 28) (c := (.st [.nils, .nils])) (v := (.d (e_api_Resources r5.1))) (c' := (.d (e_api_Resources r5.1))) tyS28 (SetAt.here _ _) (by rfl) (by rfl) (by simp) rfl (ot 14 (.ptr 1014 0 [])) (ot 46 (.d (e_api_Resources r5.1))))
      (OpJs.nil))))) (by rfl) (by rfl) ?_
    refine seqQ_n ?_
    refine AWp.ghost (mp [] [(1, (qe_api_Prefix_4 a1)), (2, (qe_api_Span_2 a2)), (4, (i6 a4)), (5, (i6 a5)), (6, (.ptr 1006 0 [])), (13, (.ptr 100200 0 [])), (14, (.ptr 1014 0 []))] [(500, some (.know (globF 0 [35, 37, 137]))), (501, some (.know (globF 1 [70, 138, 139]))), (1006, some (.box 28 (.d (e_api_Resources a0)))), (1014, some (.box 28 (.d (e_api_Resources r5.1)))), (100200, some (.box 64 (.d (e_exchangepointmake_Deck r5.2))))] hB) ?_
    refine AWp.seq ?_
    obtain ⟨r6, hr6, h⟩ := bindS h
    refine sd (c (lb hN 28 _ _ tyS28 (At.here _) (q 6)) rfl (c (lb hN 28 _ _ tyS28 (At.here _) (q 14)) rfl (c (lb hN 28 _ _ tyS28 (At.here _) (q 14)) rfl (c (mv hN (q 4)) rfl (c (mv hN (q 5)) rfl (cg (OpJ.callFn hB fnOk19 (exchangepointlaw21_bent_ac r5.1 a4 a5 r6 hr6) [] (by kernel_rfl) (L rfl) (by kernel_rfl) (OpdL.cons (q 49) (OpdL.cons (q 50) (OpdL.cons (q 51) OpdL.nil)))) rfl (c (OpJ.buildSlice Tryd.underlying45 tyS28 tyZD28 (by rfl) (by decide) (by decide) (Opds.cons (q 47) (Opds.cons (q 48) (Opds.cons (q 52) Opds.nil))) (by kernel_rfl) (es := ([(e_api_Resources a0), (e_api_Resources r5.1), (e_api_Resources r6)] : List D)) (by rfl) (by rfl) (by kernel_rfl) (by simp) (L rfl)) rfl (c (OpJ.val (v' := (i6 (([a0, r5.1, r6] : List api_Resources).length : Int))) (by simp) (OpJ.lenD Tryd.underlying45 (L rfl) (q 53))) rfl (c (mv hN (Opd.int .i64 (0))) rfl cn))))))))) (by kernel_rfl) (by kernel_rfl) ?_
    refine gh [(1, _), (2, _), (4, _), (5, _), (13, _), (14, _), (53, _), (54, _), (55, _)] [(500, some _), (501, some _), (1014, some _), (100200, some _)] hB rfl rfl (by rfl) ?_
    refine AWp.block ?_
    obtain ⟨x25, hx26, h⟩ := bindS h
    refine lg (exchangepointlaw21_ResourceMakes_L0 a0 r5 r6) (fun s7 : Int => ([(1, (qe_api_Prefix_4 a1)), (2, (qe_api_Span_2 a2)), (4, (i6 a4)), (5, (i6 a5)), (13, (.ptr 100200 0 [])), (14, (.ptr 1014 0 [])), (53, (qe_api_Resources_2 ([a0, r5.1, r6] : List api_Resources))), (54, (i6 (([a0, r5.1, r6] : List api_Resources).length : Int))), (55, (i6 s7))] : EL)) (fun s7 : Int => ([(500, some (.know (globF 0 [35, 37, 137]))), (501, some (.know (globF 1 [70, 138, 139]))), (1014, some (.box 28 (.d (e_api_Resources r5.1)))), (100200, some (.box 64 (.d (e_exchangepointmake_Deck r5.2))))] : OL)) (fun (x : (Unit) ⊕ (Unit)) e E' O' => match x with | (.inl _p) => e = .ret ∧ Mat B E' O' ([(12, (bo false))] : EL) ([(500, some (.know (globF 0 [35, 37, 137]))), (501, some (.know (globF 1 [70, 138, 139])))] : OL) | (.inr _p) => e = .exit 0 ∧ Mat B E' O' ([(1, (qe_api_Prefix_4 a1)), (2, (qe_api_Span_2 a2)), (4, (i6 a4)), (5, (i6 a5)), (13, (.ptr 100200 0 [])), (14, (.ptr 1014 0 []))] : EL) ([(500, some (.know (globF 0 [35, 37, 137]))), (501, some (.know (globF 1 [70, 138, 139]))), (1014, some (.box 28 (.d (e_api_Resources r5.1)))), (100200, some (.box 64 (.d (e_exchangepointmake_Deck r5.2))))] : OL)) hx26 (mp [] _ _ hB) (fun s7 y h => ?_) (fun e E' O' hR => ?_)
    · unfold exchangepointlaw21_ResourceMakes_L0 at h
      refine sr (c (OpJ.lss (L rfl) (q 55) (q 54)) rfl cn) ?_
      refine gh [(1, _), (2, _), (4, _), (5, _), (13, _), (14, _), (53, _), (54, _), (55, _), (56, _)] [(500, some _), (501, some _), (1014, some _), (100200, some _)] hB rfl rfl (by rfl) ?_
      refine AWp.seq ?_
      refine AWp.cond rfl (fun hg20 => ?_) (fun hg20 => ?_)
      · replace h := ite_t hg20 h
        refine AWp.skip ?_
        refine seqQ_n ?_
        refine AWp.seq ?_
        refine AWp.block ?_
        obtain ⟨x21, hx21, h⟩ := bindS h
        refine sr (c (OpJ.indexD Tryd.underlying45 tyS28 (idx_some hx21).1 (get_map e_api_Resources (idx_some hx21).2) (L rfl) (q 53) (q 55)) rfl (c (OpJ.loadD tyS28 (by rfl) (by rfl) (L rfl) (q 57)) rfl (cg (OpJ.alloc hB tyZ28 (nm := 1016) (by decide) (L rfl)) rfl (cg (OpJ.storeB tyS28 (SetAt.here _ _) (by rfl) (by rfl) (by simp) rfl (q 16) (q 58)) rfl cn)))) ?_
        refine gh [(1, _), (2, _), (4, _), (5, _), (13, _), (14, _), (16, _), (53, _), (54, _), (55, _)] [(500, some _), (501, some _), (1014, some _), (1016, some _), (100200, some _)] hB rfl rfl (by rfl) ?_
        refine AWp.seq ?_
        obtain ⟨r22, hr22, h⟩ := bindS h
        obtain ⟨r23, hr23, h⟩ := bindS h
        refine AWp.draws (by kernel_rfl) (oc (lb hN 28 (.d (e_api_Resources x21)) (.d (e_api_Resources x21)) tyS28 (At.here _) (ot 16 (.ptr 1016 0 [])))
          (oc (OpJ.callFn hB fnOk20 (resource_Valid_ac x21 r22 hr22) [(500, 500), (501, 501)] (by kernel_rfl) (L rfl) (by kernel_rfl) (OpdL.cons (ot 59 (.d (e_api_Resources x21))) OpdL.nil))
          (oc (lb hN 28 (.d (e_api_Resources x21)) (.d (e_api_Resources x21)) tyS28 (At.here _) (ot 16 (.ptr 1016 0 [])))
          (oc (OpJ.callFn hB fnOk21 (exchangepointref21_Valid_ac x21 r23 hr23) [] (by kernel_rfl) (L rfl) (by kernel_rfl) (OpdL.cons (ot 61 (.d (e_api_Resources x21))) OpdL.nil))
          (oc (OpJ.neqB Tryd.underlying4 (L rfl) (ot 60 (bo r22)) (ot 62 (bo r23)))
          (OpJs.nil)))))) (by kernel_rfl) (by rfl) (by rfl) ?_
        refine seqQ_n ?_
        refine AWp.ghost (mp [] [(1, (qe_api_Prefix_4 a1)), (2, (qe_api_Span_2 a2)), (4, (i6 a4)), (5, (i6 a5)), (13, (.ptr 100200 0 [])), (14, (.ptr 1014 0 [])), (53, (qe_api_Resources_2 ([a0, r5.1, r6] : List api_Resources))), (54, (i6 (([a0, r5.1, r6] : List api_Resources).length : Int))), (55, (i6 s7)), (63, (bo (r22 != r23)))] [(500, some (.know (globF 0 [35, 37, 137]))), (501, some (.know (globF 1 [70, 138, 139]))), (1014, some (.box 28 (.d (e_api_Resources r5.1)))), (100200, some (.box 64 (.d (e_exchangepointmake_Deck r5.2))))] hB) ?_
        refine AWp.cond rfl (fun hg24 => ?_) (fun hg24 => ?_)
        · replace h := ite_t hg24 h
          refine sr (c (OpJ.assign (L rfl) (Opd.bool false)) rfl cn) ?_
          refine gh [(12, _)] [(500, some _), (501, some _)] hB rfl rfl (by rfl) ?_
          refine AWp.ret ?_
          refine blkQ_r ?_
          refine seqQ_r ?_
          obtain rfl := Option.some.inj h
          exact ⟨(fun hc => by cases hc), rfl, (mp [] _ _ hB)⟩
        · replace h := ite_f hg24 h
          refine AWp.skip ?_
          refine blkQ_n ?_
          refine seqQ_n ?_
          refine rg (c (add6 (L rfl) (q 55) (Opd.int .i64 (1))) rfl (c (mv hN (q 64)) rfl cn)) ?_
          obtain rfl := Option.some.inj h
          exact ⟨rfl, (Mat.trans (mp [] [(1, (qe_api_Prefix_4 a1)), (2, (qe_api_Span_2 a2)), (4, (i6 a4)), (5, (i6 a5)), (13, (.ptr 100200 0 [])), (14, (.ptr 1014 0 [])), (53, (qe_api_Resources_2 ([a0, r5.1, r6] : List api_Resources))), (54, (i6 (([a0, r5.1, r6] : List api_Resources).length : Int))), (55, (i6 (w64 (s7 + (1 : Int)))))] [(500, some (.know (globF 0 [35, 37, 137]))), (501, some (.know (globF 1 [70, 138, 139]))), (1014, some (.box 28 (.d (e_api_Resources r5.1)))), (100200, some (.box 64 (.d (e_exchangepointmake_Deck r5.2))))] hB) (mp [] _ _ hB))⟩
      · replace h := ite_f hg20 h
        refine AWp.exit ?_
        refine seqQ_e ?_
        obtain rfl := Option.some.inj h
        exact ⟨(fun hc => by cases hc), rfl, (mp [] _ _ hB)⟩
    · rcases x25 with _ | _
      · obtain ⟨rfl, hmat⟩ := hR
        refine blkQ_r ?_
        refine seqQ_r ?_
        obtain rfl := Option.some.inj h
        exact ⟨.inl rfl, _, _, (Mat.trans hmat (mp [] [(12, (bo false))] [(500, some (.know (globF 0 [35, 37, 137]))), (501, some (.know (globF 1 [70, 138, 139])))] hB)), [(bo false)], (Res.tmp (by rfl) (by rfl) Res.nil), rfl, by rfl, by rfl, by rfl⟩
      · obtain ⟨rfl, hmat⟩ := hR
        refine blkQ_hit ?_
        refine seqQ_n ?_
        refine AWp.ghost hmat ?_
        refine sr (c (OpJ.assign (L rfl) Opd.nils) rfl cn) ?_
        refine gh [(1, _), (2, _), (4, _), (5, _), (13, _), (14, _), (17, _)] [(500, some _), (501, some _), (1014, some _), (100200, some _)] hB rfl rfl (by rfl) ?_
        refine AWp.seq ?_
        obtain ⟨r27, hr27, h⟩ := bindS h
        refine sr (c (mv hN (q 5)) rfl (cg (OpJ.callFn hB fnOk14 (exchangepointmake_Mod_ac a5 (3 : Int) r27 hr27) [] (by kernel_rfl) (L rfl) (by kernel_rfl) (OpdL.cons (q 65) (OpdL.cons (Opd.int .i64 (3)) OpdL.nil))) rfl (c (add6 (L rfl) (Opd.int .i64 (255)) (q 66)) rfl (c (mv hN (Opd.int .i64 (0))) rfl cn)))) ?_
        refine gh [(1, _), (2, _), (4, _), (5, _), (13, _), (14, _), (17, _), (67, _), (68, _)] [(500, some _), (501, some _), (1014, some _), (100200, some _)] hB rfl rfl (by rfl) ?_
        refine AWp.block ?_
        obtain ⟨p33, hx37, h⟩ := bindS h
        refine lg (exchangepointlaw21_ResourceMakes_L1 r27) (fun s28 : Int × (List api_Prefix) => ([(1, (qe_api_Prefix_4 a1)), (2, (qe_api_Span_2 a2)), (4, (i6 a4)), (5, (i6 a5)), (13, (.ptr 100200 0 [])), (14, (.ptr 1014 0 [])), (17, (.sref 3017 4 0 s28.2.length)), (67, (i6 (w64 ((255 : Int) + r27)))), (68, (i6 s28.1))] : EL)) (fun s28 : Int × (List api_Prefix) => ([(500, some (.know (globF 0 [35, 37, 137]))), (501, some (.know (globF 1 [70, 138, 139]))), (1014, some (.box 28 (.d (e_api_Resources r5.1)))), (3017, some (we_api_Prefix_34_4 s28.2)), (100200, some (.box 64 (.d (e_exchangepointmake_Deck r5.2))))] : OL)) (fun (p33 : ((List api_Prefix))) e E' O' => e = .exit 2 ∧ Mat B E' O' ([(1, (qe_api_Prefix_4 a1)), (2, (qe_api_Span_2 a2)), (4, (i6 a4)), (5, (i6 a5)), (13, (.ptr 100200 0 [])), (14, (.ptr 1014 0 [])), (17, (.sref 3017 4 0 p33.length))] : EL) ([(500, some (.know (globF 0 [35, 37, 137]))), (501, some (.know (globF 1 [70, 138, 139]))), (1014, some (.box 28 (.d (e_api_Resources r5.1)))), (3017, some (we_api_Prefix_34_4 p33)), (100200, some (.box 64 (.d (e_exchangepointmake_Deck r5.2))))] : OL)) hx37 (Mat.trans (Mat.beginP (n := 3017) (e := 34) (sz := 4) (Ts := [(17, (.sref 3017 4 0 0))]) (Bs := []) hB (by decide) (by rfl) (by decide) (TwT.cons (x := .nils) (by rfl) (Tw.leaf ⟨rfl, rfl⟩) TwT.nil) TwB.nil) (mp [] _ _ hB)) (fun s28 y h => ?_) (fun e E' O' hR => ?_)
        · unfold exchangepointlaw21_ResourceMakes_L1 at h
          refine sr (c (OpJ.lss (L rfl) (q 68) (q 67)) rfl cn) ?_
          refine gh [(1, _), (2, _), (4, _), (5, _), (13, _), (14, _), (17, _), (67, _), (68, _), (69, _)] [(500, some _), (501, some _), (1014, some _), (3017, some _), (100200, some _)] hB rfl rfl (by rfl) ?_
          refine AWp.seq ?_
          refine AWp.cond rfl (fun hg34 => ?_) (fun hg34 => ?_)
          · replace h := ite_t hg34 h
            refine AWp.skip ?_
            refine seqQ_n ?_
            refine AWp.seq ?_
            refine AWp.block ?_
            refine sr (c (mv hN (q 68)) rfl (c (OpJ.assign (L rfl) (q 70)) rfl cn)) ?_
            refine gh [(1, _), (2, _), (4, _), (5, _), (13, _), (14, _), (17, _), (18, _), (67, _), (68, _)] [(500, some _), (501, some _), (1014, some _), (3017, some _), (100200, some _)] hB rfl rfl (by rfl) ?_
            obtain ⟨hc35, h⟩ := chk_some h
            refine rg (c (mv hN (q 17)) rfl (c (mv hN (q 18)) rfl (c (mul6 (L rfl) (Opd.int .i64 (2)) (q 72)) rfl (c (OpJ.conv Tryd.underlying3 Tryd.underlying30 (L rfl) (q 73)) rfl (c (OpJ.coe (v := (.st [(bo false), (.d (.int .u64 0)), (.d (.int .u64 (IntKind.u64.wrap (w64 ((2 : Int) * s28.1)))))])) (y := (.st [(.bool false), (.int .u64 0), (.int .u64 (IntKind.u64.wrap (w64 ((2 : Int) * s28.1))))])) (Co.st (CoL.cons (Co.d _) (CoL.cons (Co.d _) (CoL.cons (Co.d _) CoL.nil)))) rfl (OpJ.build (places := [(0, 1), (1, 1), (2, 1)]) ⟨Tryd.underlying32, fun w => by kernel_rfl⟩ tyZS32 (Opds.cons (q 74) Opds.nil) (by kernel_rfl) (r := (.st [(bo false), (.d (.int .u64 0)), (.d (.int .u64 (IntKind.u64.wrap (w64 ((2 : Int) * s28.1)))))])) (by rfl) (L rfl))) rfl (c (OpJ.coe (v := (.st [(.d (.st [(.bool false), (.int .u64 0), (.int .u64 (IntKind.u64.wrap (w64 ((2 : Int) * s28.1))))])), (i6 (32 : Int))])) (y := (.st [(.st [(.bool false), (.int .u64 0), (.int .u64 (IntKind.u64.wrap (w64 ((2 : Int) * s28.1))))]), (.int .i64 (32 : Int))])) (Co.st (CoL.cons (Co.d _) (CoL.cons (Co.d _) CoL.nil))) rfl (OpJ.build (places := [(0, 3), (3, 1)]) ⟨Tryd.underlying34, fun w => by kernel_rfl⟩ tyZS34 (Opds.cons (q 75) (Opds.cons (Opd.int .i64 (32)) Opds.nil)) (by kernel_rfl) (r := (.st [(.d (.st [(.bool false), (.int .u64 0), (.int .u64 (IntKind.u64.wrap (w64 ((2 : Int) * s28.1))))])), (i6 (32 : Int))])) (by rfl) (L rfl))) rfl (c (OpJ.buildSlice Tryd.underlying36 tyS34 tyZD34 (by rfl) (by decide) (by decide) (Opds.cons (q 76) Opds.nil) (by kernel_rfl) (es := ([(.st [(.st [(.bool false), (.int .u64 0), (.int .u64 (IntKind.u64.wrap (w64 ((2 : Int) * s28.1))))]), (.int .i64 (32 : Int))])] : List D)) (by rfl) (by rfl) (by kernel_rfl) (by simp) (L rfl)) rfl (cg (OpJ.append hB Tryd.underlying36 tyE34 (nm := 1078) (by decide) (es := s28.2.map e_api_Prefix) (ys := ([(api_Prefix.mk (api_Addr.mk false (0 : Int) (IntKind.u64.wrap (w64 ((2 : Int) * s28.1)))) (32 : Int))] : List api_Prefix).map e_api_Prefix) (es' := (s28.2 ++ ([(api_Prefix.mk (api_Addr.mk false (0 : Int) (IntKind.u64.wrap (w64 ((2 : Int) * s28.1)))) (32 : Int))] : List api_Prefix)).map e_api_Prefix) (len := (s28.2 ++ ([(api_Prefix.mk (api_Addr.mk false (0 : Int) (IntKind.u64.wrap (w64 ((2 : Int) * s28.1)))) (32 : Int))] : List api_Prefix)).length) (by simp) (by simp) (map_sz (f := e_api_Prefix) (fun _ => rfl)) (by rw [List.length_map]; exact lim_mulN hc35 (by decide)) (by rw [List.length_map]; exact lim_leN hc35) (L rfl) (by simp) (q 71) (q 77)) rfl (c (OpJ.assign (L rfl) (q 78)) rfl cn))))))))) ?_
            refine blkQ_n ?_
            refine seqQ_n ?_
            refine gh [(1, _), (2, _), (4, _), (5, _), (13, _), (14, _), (17, _), (67, _), (68, _)] [(500, some _), (501, some _), (1014, some _), (1078, some _), (100200, some _)] hB rfl rfl (by rfl) ?_
            refine rg (c (add6 (L rfl) (q 68) (Opd.int .i64 (1))) rfl (c (mv hN (q 79)) rfl cn)) ?_
            obtain rfl := Option.some.inj h
            exact ⟨rfl, (Mat.trans (mp [] [(1, (qe_api_Prefix_4 a1)), (2, (qe_api_Span_2 a2)), (4, (i6 a4)), (5, (i6 a5)), (13, (.ptr 100200 0 [])), (14, (.ptr 1014 0 [])), (17, (.sref 1078 4 0 ((s28.2 ++ ([(api_Prefix.mk (api_Addr.mk false (0 : Int) (IntKind.u64.wrap (w64 ((2 : Int) * s28.1)))) (32 : Int))] : List api_Prefix)).length))), (67, (i6 (w64 ((255 : Int) + r27)))), (68, (i6 (w64 (s28.1 + (1 : Int)))))] [(500, some (.know (globF 0 [35, 37, 137]))), (501, some (.know (globF 1 [70, 138, 139]))), (1014, some (.box 28 (.d (e_api_Resources r5.1)))), (1078, some (we_api_Prefix_34_4 (s28.2 ++ ([(api_Prefix.mk (api_Addr.mk false (0 : Int) (IntKind.u64.wrap (w64 ((2 : Int) * s28.1)))) (32 : Int))] : List api_Prefix)))), (100200, some (.box 64 (.d (e_exchangepointmake_Deck r5.2))))] hB) (mp [(3017, 1078)] _ _ hB))⟩
          · replace h := ite_f hg34 h
            refine AWp.exit ?_
            refine seqQ_e ?_
            obtain rfl := Option.some.inj h
            exact ⟨(fun hc => by cases hc), rfl, (mp [] _ _ hB)⟩
        · obtain ⟨rfl, hmat⟩ := hR
          refine blkQ_hit ?_
          refine seqQ_n ?_
          refine AWp.ghost hmat ?_
          refine AWp.seq ?_
          obtain ⟨r38, hr38, h⟩ := bindS h
          obtain ⟨r39, hr39, h⟩ := bindS h
          obtain ⟨r40, hr40, h⟩ := bindS h
          obtain ⟨r41, hr41, h⟩ := bindS h
          refine AWp.region (oc (mv hN (ot 13 (.ptr 100200 0 [])))
            (oc (OpJ.callFn hB fnOk9 (exchangepointmake_Deck_Prefix_ac r5.2 r38 hr38) [(0, 100200)] (by kernel_rfl) (L rfl) (by kernel_rfl) (OpdL.cons (ot 80 (.ptr 100200 0 [])) OpdL.nil))
            (oc (mv hN (ot 13 (.ptr 100200 0 [])))
            (oc (OpJ.callFn hB fnOk9 (exchangepointmake_Deck_Prefix_ac r38.2 r39 hr39) [(0, 100200)] (by kernel_rfl) (L rfl) (by kernel_rfl) (OpdL.cons (ot 82 (.ptr 100200 0 [])) OpdL.nil))
            (oc (mv hN (ot 13 (.ptr 100200 0 [])))
            (oc (OpJ.callFn hB fnOk9 (exchangepointmake_Deck_Prefix_ac r39.2 r40 hr40) [(0, 100200)] (by kernel_rfl) (L rfl) (by kernel_rfl) (OpdL.cons (ot 84 (.ptr 100200 0 [])) OpdL.nil))
            (oc (mv hN (ot 13 (.ptr 100200 0 [])))
            (oc (OpJ.callFn hB fnOk9 (exchangepointmake_Deck_Prefix_ac r40.2 r41 hr41) [(0, 100200)] (by kernel_rfl) (L rfl) (by kernel_rfl) (OpdL.cons (ot 86 (.ptr 100200 0 [])) OpdL.nil))
            (oc (OpJ.buildSlice Tryd.underlying36 tyS34 tyZD34 (by rfl) (by decide) (by decide) (Opds.cons (ot 81 (.d (e_api_Prefix r38.1))) (Opds.cons (ot 83 (.d (e_api_Prefix r39.1))) (Opds.cons (ot 85 (.d (e_api_Prefix r40.1))) (Opds.cons (ot 87 (.d (e_api_Prefix r41.1))) Opds.nil)))) (by kernel_rfl) (es := ([(e_api_Prefix r38.1), (e_api_Prefix r39.1), (e_api_Prefix r40.1), (e_api_Prefix r41.1)] : List D)) (by rfl) (by rfl) (by kernel_rfl) (by simp) (L rfl))
            (oc (OpJ.assign (L rfl) (ot 88 (qe_api_Prefix_4 ([r38.1, r39.1, r40.1, r41.1] : List api_Prefix))))
            (OpJs.nil))))))))))) (by rfl) (by rfl) ?_
          refine seqQ_n ?_
          refine AWp.ghost (mp [] [(1, (qe_api_Prefix_4 a1)), (2, (qe_api_Span_2 a2)), (4, (i6 a4)), (5, (i6 a5)), (13, (.ptr 100200 0 [])), (14, (.ptr 1014 0 [])), (17, (.sref 3017 4 0 p33.length)), (19, (qe_api_Prefix_4 ([r38.1, r39.1, r40.1, r41.1] : List api_Prefix)))] [(500, some (.know (globF 0 [35, 37, 137]))), (501, some (.know (globF 1 [70, 138, 139]))), (1014, some (.box 28 (.d (e_api_Resources r5.1)))), (3017, some (we_api_Prefix_34_4 p33)), (100200, some (.box 64 (.d (e_exchangepointmake_Deck r41.2))))] hB) ?_
          refine AWp.seq ?_
          obtain ⟨r42, hr42, h⟩ := bindS h
          obtain ⟨r43, hr43, h⟩ := bindS h
          obtain ⟨r44, hr44, h⟩ := bindS h
          obtain ⟨r45, hr45, h⟩ := bindS h
          obtain ⟨r46, hr46, h⟩ := bindS h
          refine AWp.region (oc (mv hN (ot 13 (.ptr 100200 0 [])))
            (oc (OpJ.callFn hB fnOk22 (exchangepointmake_Deck_Next_ac r41.2 (9 : Int) r42 hr42) [(0, 100200)] (by kernel_rfl) (L rfl) (by kernel_rfl) (OpdL.cons (ot 89 (.ptr 100200 0 [])) (OpdL.cons (Opd.int .i64 (9)) OpdL.nil)))
            (oc (mv hN (ot 13 (.ptr 100200 0 [])))
            (oc (OpJ.callFn hB fnOk22 (exchangepointmake_Deck_Next_ac r42.2 (9 : Int) r43 hr43) [(0, 100200)] (by kernel_rfl) (L rfl) (by kernel_rfl) (OpdL.cons (ot 91 (.ptr 100200 0 [])) (OpdL.cons (Opd.int .i64 (9)) OpdL.nil)))
            (oc (add6 (L rfl) (Opd.int .i64 (4)) (ot 92 (i6 r43.1)))
            (oc (OpJ.coe (v := (.st [(i6 r42.1), (i6 (w64 ((4 : Int) + r43.1)))])) (y := (.st [(.int .i64 r42.1), (.int .i64 (w64 ((4 : Int) + r43.1)))])) (Co.st (CoL.cons (Co.d _) (CoL.cons (Co.d _) CoL.nil))) rfl (OpJ.build (places := [(0, 1), (1, 1)]) ⟨Tryd.underlying48, fun w => by kernel_rfl⟩ tyZS48 (Opds.cons (ot 90 (i6 r42.1)) (Opds.cons (ot 93 (i6 (w64 ((4 : Int) + r43.1)))) Opds.nil)) (by kernel_rfl) (r := (.st [(i6 r42.1), (i6 (w64 ((4 : Int) + r43.1)))])) (by rfl) (L rfl)))
            (oc (mv hN (ot 13 (.ptr 100200 0 [])))
            (oc (OpJ.callFn hB fnOk22 (exchangepointmake_Deck_Next_ac r43.2 (5 : Int) r44 hr44) [(0, 100200)] (by kernel_rfl) (L rfl) (by kernel_rfl) (OpdL.cons (ot 95 (.ptr 100200 0 [])) (OpdL.cons (Opd.int .i64 (5)) OpdL.nil)))
            (oc (add6 (L rfl) (Opd.int .i64 (9)) (ot 96 (i6 r44.1)))
            (oc (OpJ.coe (v := (.st [(i6 (w64 ((9 : Int) + r44.1))), (i6 (20 : Int))])) (y := (.st [(.int .i64 (w64 ((9 : Int) + r44.1))), (.int .i64 (20 : Int))])) (Co.st (CoL.cons (Co.d _) (CoL.cons (Co.d _) CoL.nil))) rfl (OpJ.build (places := [(0, 1), (1, 1)]) ⟨Tryd.underlying48, fun w => by kernel_rfl⟩ tyZS48 (Opds.cons (ot 97 (i6 (w64 ((9 : Int) + r44.1)))) (Opds.cons (Opd.int .i64 (20)) Opds.nil)) (by kernel_rfl) (r := (.st [(i6 (w64 ((9 : Int) + r44.1))), (i6 (20 : Int))])) (by rfl) (L rfl)))
            (oc (mv hN (ot 5 (i6 a5)))
            (oc (OpJ.callFn hB fnOk14 (exchangepointmake_Mod_ac a5 (3 : Int) r45 hr45) [] (by kernel_rfl) (L rfl) (by kernel_rfl) (OpdL.cons (ot 99 (i6 a5)) (OpdL.cons (Opd.int .i64 (3)) OpdL.nil)))
            (oc (mv hN (ot 4 (i6 a4)))
            (oc (OpJ.callFn hB fnOk14 (exchangepointmake_Mod_ac a4 (2 : Int) r46 hr46) [] (by kernel_rfl) (L rfl) (by kernel_rfl) (OpdL.cons (ot 101 (i6 a4)) (OpdL.cons (Opd.int .i64 (2)) OpdL.nil)))
            (oc (add6 (L rfl) (Opd.int .i64 (4294967295)) (ot 102 (i6 r46)))
            (oc (OpJ.coe (v := (.st [(i6 r45), (i6 (w64 ((4294967295 : Int) + r46)))])) (y := (.st [(.int .i64 r45), (.int .i64 (w64 ((4294967295 : Int) + r46)))])) (Co.st (CoL.cons (Co.d _) (CoL.cons (Co.d _) CoL.nil))) rfl (OpJ.build (places := [(0, 1), (1, 1)]) ⟨Tryd.underlying48, fun w => by kernel_rfl⟩ tyZS48 (Opds.cons (ot 100 (i6 r45)) (Opds.cons (ot 103 (i6 (w64 ((4294967295 : Int) + r46)))) Opds.nil)) (by kernel_rfl) (r := (.st [(i6 r45), (i6 (w64 ((4294967295 : Int) + r46)))])) (by rfl) (L rfl)))
            (oc (OpJ.buildSlice Tryd.underlying26 tyS48 tyZD48 (by rfl) (by decide) (by decide) (Opds.cons (ot 94 (.d (.st [(.int .i64 r42.1), (.int .i64 (w64 ((4 : Int) + r43.1)))]))) (Opds.cons (ot 98 (.d (.st [(.int .i64 (w64 ((9 : Int) + r44.1))), (.int .i64 (20 : Int))]))) (Opds.cons (ot 104 (.d (.st [(.int .i64 r45), (.int .i64 (w64 ((4294967295 : Int) + r46)))]))) Opds.nil))) (by kernel_rfl) (es := ([(.st [(.int .i64 r42.1), (.int .i64 (w64 ((4 : Int) + r43.1)))]), (.st [(.int .i64 (w64 ((9 : Int) + r44.1))), (.int .i64 (20 : Int))]), (.st [(.int .i64 r45), (.int .i64 (w64 ((4294967295 : Int) + r46)))])] : List D)) (by rfl) (by rfl) (by kernel_rfl) (by simp) (L rfl))
            (oc (OpJ.assign (L rfl) (ot 105 (qe_api_Span_2 ([(api_Span.mk r42.1 (w64 ((4 : Int) + r43.1))), (api_Span.mk (w64 ((9 : Int) + r44.1)) (20 : Int)), (api_Span.mk r45 (w64 ((4294967295 : Int) + r46)))] : List api_Span))))
            (OpJs.nil))))))))))))))))))) (by rfl) (by rfl) ?_
          refine seqQ_n ?_
          refine AWp.ghost (mp [] [(1, (qe_api_Prefix_4 a1)), (2, (qe_api_Span_2 a2)), (14, (.ptr 1014 0 [])), (17, (.sref 3017 4 0 p33.length)), (19, (qe_api_Prefix_4 ([r38.1, r39.1, r40.1, r41.1] : List api_Prefix))), (20, (qe_api_Span_2 ([(api_Span.mk r42.1 (w64 ((4 : Int) + r43.1))), (api_Span.mk (w64 ((9 : Int) + r44.1)) (20 : Int)), (api_Span.mk r45 (w64 ((4294967295 : Int) + r46)))] : List api_Span)))] [(500, some (.know (globF 0 [35, 37, 137]))), (501, some (.know (globF 1 [70, 138, 139]))), (1014, some (.box 28 (.d (e_api_Resources r5.1)))), (3017, some (we_api_Prefix_34_4 p33))] hB) ?_
          refine AWp.seq ?_
          refine AWp.seq ?_
          refine AWp.ghost (Mat.freezeP (n := 3017) (e := 34) (sz := 4) (es := p33.map e_api_Prefix) (Ts := [(17, (qe_api_Prefix_4 p33))]) (Bs := []) (by rfl) (TwT.cons (x := (.sref 3017 4 0 p33.length)) (by rfl) (FrzL.all (by first | rfl | (simp; done) | (simp; omega) | omega)) TwT.nil) TwB.nil) ?_
          refine rg (c (mv hN (q 1)) rfl (c (mv hN (q 19)) rfl (c (mv hN (q 17)) rfl (c (OpJ.buildSlice Tryd.underlying49 tyS36 tyZD36 (by rfl) (by decide) (by decide) (Opds.cons (q 106) (Opds.cons (q 107) (Opds.cons (q 108) Opds.nil))) (by kernel_rfl) (es := ([(.list 4 (a1.map e_api_Prefix)), (.list 4 (([r38.1, r39.1, r40.1, r41.1] : List api_Prefix).map e_api_Prefix)), (.list 4 (p33.map e_api_Prefix))] : List D)) (by rfl) (by rfl) (by kernel_rfl) (by simp) (L rfl)) rfl (c (OpJ.val (v' := (i6 (([a1, ([r38.1, r39.1, r40.1, r41.1] : List api_Prefix), p33] : List (List api_Prefix)).length : Int))) (by simp) (OpJ.lenD Tryd.underlying49 (L rfl) (q 109))) rfl (c (mv hN (Opd.int .i64 (0))) rfl cn)))))) ?_
          refine seqQ_n ?_
          refine gh [(2, _), (14, _), (20, _), (109, _), (110, _), (111, _)] [(500, some _), (501, some _), (1014, some _)] hB rfl rfl (by rfl) ?_
          refine AWp.block ?_
          obtain ⟨x130, hx131, h⟩ := bindS h
          refine lg (exchangepointlaw21_ResourceMakes_L2 a1 a2 p33 r38 r39 r40 r41 r42 r43 r44 r45 r46) (fun s47 : Int => ([(2, (qe_api_Span_2 a2)), (14, (.ptr 1014 0 [])), (20, (qe_api_Span_2 ([(api_Span.mk r42.1 (w64 ((4 : Int) + r43.1))), (api_Span.mk (w64 ((9 : Int) + r44.1)) (20 : Int)), (api_Span.mk r45 (w64 ((4294967295 : Int) + r46)))] : List api_Span))), (109, (.d (.list 1 (([a1, ([r38.1, r39.1, r40.1, r41.1] : List api_Prefix), p33] : List (List api_Prefix)).map e_LeapiPrefix)))), (110, (i6 (([a1, ([r38.1, r39.1, r40.1, r41.1] : List api_Prefix), p33] : List (List api_Prefix)).length : Int))), (111, (i6 s47))] : EL)) (fun s47 : Int => ([(500, some (.know (globF 0 [35, 37, 137]))), (501, some (.know (globF 1 [70, 138, 139]))), (1014, some (.box 28 (.d (e_api_Resources r5.1))))] : OL)) (fun (x : (Unit) ⊕ (Unit)) e E' O' => match x with | (.inl _p) => e = .ret ∧ Mat B E' O' ([(12, (bo false))] : EL) ([(500, some (.know (globF 0 [35, 37, 137]))), (501, some (.know (globF 1 [70, 138, 139])))] : OL) | (.inr _p) => e = .exit 4 ∧ Mat B E' O' ([(14, (.ptr 1014 0 []))] : EL) ([(500, some (.know (globF 0 [35, 37, 137]))), (501, some (.know (globF 1 [70, 138, 139]))), (1014, some (.box 28 (.d (e_api_Resources r5.1))))] : OL)) hx131 (mp [] _ _ hB) (fun s47 y h => ?_) (fun e E' O' hR => ?_)
          · unfold exchangepointlaw21_ResourceMakes_L2 at h
            refine sr (c (OpJ.lss (L rfl) (q 111) (q 110)) rfl cn) ?_
            refine gh [(2, _), (14, _), (20, _), (109, _), (110, _), (111, _), (112, _)] [(500, some _), (501, some _), (1014, some _)] hB rfl rfl (by rfl) ?_
            refine AWp.seq ?_
            refine AWp.cond rfl (fun hg104 => ?_) (fun hg104 => ?_)
            · replace h := ite_t hg104 h
              refine AWp.skip ?_
              refine seqQ_n ?_
              refine AWp.seq ?_
              refine AWp.block ?_
              obtain ⟨x105, hx105, h⟩ := bindS h
              refine sr (c (OpJ.indexD Tryd.underlying49 tyS36 (idx_some hx105).1 (get_map e_LeapiPrefix (idx_some hx105).2) (L rfl) (q 109) (q 111)) rfl (c (OpJ.loadD tyS36 (by rfl) (by rfl) (L rfl) (q 113)) rfl (c (OpJ.assign (L rfl) (q 114)) rfl cn))) ?_
              refine gh [(2, _), (14, _), (20, _), (22, _), (109, _), (110, _), (111, _)] [(500, some _), (501, some _), (1014, some _)] hB rfl rfl (by rfl) ?_
              obtain ⟨hc106, h⟩ := chk_some h
              refine sr (c (mv hN (q 2)) rfl (c (mv hN (q 20)) rfl (c (mv hN (q 20)) rfl (c (OpJ.cutD Tryd.underlying26 tyS48 (es' := ((([(api_Span.mk r42.1 (w64 ((4 : Int) + r43.1))), (api_Span.mk (w64 ((9 : Int) + r44.1)) (20 : Int)), (api_Span.mk r45 (w64 ((4294967295 : Int) + r46)))] : List api_Span).take 2).drop 0).map e_api_Span) (l := 0) (h := 2) (.inl ⟨rfl, rfl, rfl⟩) (.inr ⟨_, _, _, rfl, (Opd.int .i64 (2)), (of_decide_eq_true (and_l2 (and_l2 hc106))), rfl⟩) (of_decide_eq_true (and_r2 (and_l2 hc106))) (by first | (simp; done) | simpa using (of_decide_eq_true (and_r2 hc106))) (by first | rw [List.map_drop, List.map_take] | simp [List.map_take, List.map_drop]) (L rfl) (q 117)) rfl (c (OpJ.buildSlice Tryd.underlying50 tyS26 tyZD26 (by rfl) (by decide) (by decide) (Opds.cons (q 115) (Opds.cons (q 116) (Opds.cons (q 118) Opds.nil))) (by kernel_rfl) (es := ([(.list 2 (a2.map e_api_Span)), (.list 2 (([(api_Span.mk r42.1 (w64 ((4 : Int) + r43.1))), (api_Span.mk (w64 ((9 : Int) + r44.1)) (20 : Int)), (api_Span.mk r45 (w64 ((4294967295 : Int) + r46)))] : List api_Span).map e_api_Span)), (.list 2 (((([(api_Span.mk r42.1 (w64 ((4 : Int) + r43.1))), (api_Span.mk (w64 ((9 : Int) + r44.1)) (20 : Int)), (api_Span.mk r45 (w64 ((4294967295 : Int) + r46)))] : List api_Span).take 2).drop 0).map e_api_Span))] : List D)) (by rfl) (by rfl) (by kernel_rfl) (by simp) (L rfl)) rfl (c (OpJ.val (v' := (i6 (([a2, ([(api_Span.mk r42.1 (w64 ((4 : Int) + r43.1))), (api_Span.mk (w64 ((9 : Int) + r44.1)) (20 : Int)), (api_Span.mk r45 (w64 ((4294967295 : Int) + r46)))] : List api_Span), ((([(api_Span.mk r42.1 (w64 ((4 : Int) + r43.1))), (api_Span.mk (w64 ((9 : Int) + r44.1)) (20 : Int)), (api_Span.mk r45 (w64 ((4294967295 : Int) + r46)))] : List api_Span).take 2).drop 0)] : List (List api_Span)).length : Int))) (by simp) (OpJ.lenD Tryd.underlying50 (L rfl) (q 119))) rfl (c (mv hN (Opd.int .i64 (0))) rfl cn))))))) ?_
              refine gh [(2, _), (14, _), (20, _), (22, _), (109, _), (110, _), (111, _), (119, _), (120, _), (121, _)] [(500, some _), (501, some _), (1014, some _)] hB rfl rfl (by rfl) ?_
              refine AWp.block ?_
              obtain ⟨x128, hx129, h⟩ := bindS h
              refine lg (exchangepointlaw21_ResourceMakes_L3 a2 r42 r43 r44 r45 r46 x105) (fun s107 : Int => ([(2, (qe_api_Span_2 a2)), (14, (.ptr 1014 0 [])), (20, (qe_api_Span_2 ([(api_Span.mk r42.1 (w64 ((4 : Int) + r43.1))), (api_Span.mk (w64 ((9 : Int) + r44.1)) (20 : Int)), (api_Span.mk r45 (w64 ((4294967295 : Int) + r46)))] : List api_Span))), (22, (qe_api_Prefix_4 x105)), (109, (.d (.list 1 (([a1, ([r38.1, r39.1, r40.1, r41.1] : List api_Prefix), p33] : List (List api_Prefix)).map e_LeapiPrefix)))), (110, (i6 (([a1, ([r38.1, r39.1, r40.1, r41.1] : List api_Prefix), p33] : List (List api_Prefix)).length : Int))), (111, (i6 s47)), (119, (.d (.list 1 (([a2, ([(api_Span.mk r42.1 (w64 ((4 : Int) + r43.1))), (api_Span.mk (w64 ((9 : Int) + r44.1)) (20 : Int)), (api_Span.mk r45 (w64 ((4294967295 : Int) + r46)))] : List api_Span), ((([(api_Span.mk r42.1 (w64 ((4 : Int) + r43.1))), (api_Span.mk (w64 ((9 : Int) + r44.1)) (20 : Int)), (api_Span.mk r45 (w64 ((4294967295 : Int) + r46)))] : List api_Span).take 2).drop 0)] : List (List api_Span)).map e_LeapiSpan)))), (120, (i6 (([a2, ([(api_Span.mk r42.1 (w64 ((4 : Int) + r43.1))), (api_Span.mk (w64 ((9 : Int) + r44.1)) (20 : Int)), (api_Span.mk r45 (w64 ((4294967295 : Int) + r46)))] : List api_Span), ((([(api_Span.mk r42.1 (w64 ((4 : Int) + r43.1))), (api_Span.mk (w64 ((9 : Int) + r44.1)) (20 : Int)), (api_Span.mk r45 (w64 ((4294967295 : Int) + r46)))] : List api_Span).take 2).drop 0)] : List (List api_Span)).length : Int))), (121, (i6 s107))] : EL)) (fun s107 : Int => ([(500, some (.know (globF 0 [35, 37, 137]))), (501, some (.know (globF 1 [70, 138, 139]))), (1014, some (.box 28 (.d (e_api_Resources r5.1))))] : OL)) (fun (x : (Unit) ⊕ (Unit)) e E' O' => match x with | (.inl _p) => e = .ret ∧ Mat B E' O' ([(12, (bo false))] : EL) ([(500, some (.know (globF 0 [35, 37, 137]))), (501, some (.know (globF 1 [70, 138, 139])))] : OL) | (.inr _p) => e = .exit 6 ∧ Mat B E' O' ([(2, (qe_api_Span_2 a2)), (14, (.ptr 1014 0 [])), (20, (qe_api_Span_2 ([(api_Span.mk r42.1 (w64 ((4 : Int) + r43.1))), (api_Span.mk (w64 ((9 : Int) + r44.1)) (20 : Int)), (api_Span.mk r45 (w64 ((4294967295 : Int) + r46)))] : List api_Span))), (109, (.d (.list 1 (([a1, ([r38.1, r39.1, r40.1, r41.1] : List api_Prefix), p33] : List (List api_Prefix)).map e_LeapiPrefix)))), (110, (i6 (([a1, ([r38.1, r39.1, r40.1, r41.1] : List api_Prefix), p33] : List (List api_Prefix)).length : Int))), (111, (i6 s47))] : EL) ([(500, some (.know (globF 0 [35, 37, 137]))), (501, some (.know (globF 1 [70, 138, 139]))), (1014, some (.box 28 (.d (e_api_Resources r5.1))))] : OL)) hx129 (mp [] _ _ hB) (fun s107 y h => ?_) (fun e E' O' hR => ?_)
              · unfold exchangepointlaw21_ResourceMakes_L3 at h
                refine sr (c (OpJ.lss (L rfl) (q 121) (q 120)) rfl cn) ?_
                refine gh [(2, _), (14, _), (20, _), (22, _), (109, _), (110, _), (111, _), (119, _), (120, _), (121, _), (122, _)] [(500, some _), (501, some _), (1014, some _)] hB rfl rfl (by rfl) ?_
                refine AWp.seq ?_
                refine AWp.cond rfl (fun hg122 => ?_) (fun hg122 => ?_)
                · replace h := ite_t hg122 h
                  refine AWp.skip ?_
                  refine seqQ_n ?_
                  refine AWp.seq ?_
                  refine AWp.block ?_
                  obtain ⟨x123, hx123, h⟩ := bindS h
                  refine sr (c (OpJ.indexD Tryd.underlying50 tyS26 (idx_some hx123).1 (get_map e_LeapiSpan (idx_some hx123).2) (L rfl) (q 119) (q 121)) rfl (c (OpJ.loadD tyS26 (by rfl) (by rfl) (L rfl) (q 123)) rfl (c (OpJ.assign (L rfl) (q 124)) rfl cn))) ?_
                  refine gh [(2, _), (14, _), (20, _), (22, _), (24, _), (109, _), (110, _), (111, _), (119, _), (120, _), (121, _)] [(500, some _), (501, some _), (1014, some _)] hB rfl rfl (by rfl) ?_
                  refine AWp.seq ?_
                  obtain ⟨r124, hr124, h⟩ := bindS h
                  refine AWp.region (oc (mv hN (ot 22 (qe_api_Prefix_4 x105)))
                    (oc (mv hN (ot 24 (qe_api_Span_2 x123)))
                    (oc (OpJ.callFn hB fnOk23 (resource_Of_ac x105 x123 r124 hr124) [(500, 500), (501, 501)] (by kernel_rfl) (L rfl) (by kernel_rfl) (OpdL.cons (ot 126 (qe_api_Prefix_4 x105)) (OpdL.cons (ot 127 (qe_api_Span_2 x123)) OpdL.nil)))
                    (oc (mv hN (ot 128 (.tup [(.d (e_api_Resources r124.1)), (i6 r124.2)])))
                    (oc (OpJ.extract (v := (.d (e_api_Resources r124.1))) (by rfl) rfl (L rfl) (ot 125 (.tup [(.d (e_api_Resources r124.1)), (i6 r124.2)])))
                    (oc (OpJ.extract (v := (i6 r124.2)) (by rfl) rfl (L rfl) (ot 125 (.tup [(.d (e_api_Resources r124.1)), (i6 r124.2)])))
                    (oc (OpJ.alloc hB tyZ28 (nm := 1025) (by decide) (L rfl))
                    (oc (OpJ.storeB (bt := 28) (c := (.st [.nils, .nils])) (v := (.d (e_api_Resources r124.1))) (c' := (.d (e_api_Resources r124.1))) tyS28 (SetAt.here _ _) (by rfl) (by rfl) (by simp) rfl (ot 25 (.ptr 1025 0 [])) (ot 129 (.d (e_api_Resources r124.1))))
                    (oc (OpJ.assign (L rfl) (ot 130 (i6 r124.2)))
                    (OpJs.nil)))))))))) (by rfl) (by rfl) ?_
                  refine seqQ_n ?_
                  refine AWp.ghost (mp [] [(2, (qe_api_Span_2 a2)), (14, (.ptr 1014 0 [])), (20, (qe_api_Span_2 ([(api_Span.mk r42.1 (w64 ((4 : Int) + r43.1))), (api_Span.mk (w64 ((9 : Int) + r44.1)) (20 : Int)), (api_Span.mk r45 (w64 ((4294967295 : Int) + r46)))] : List api_Span))), (22, (qe_api_Prefix_4 x105)), (24, (qe_api_Span_2 x123)), (25, (.ptr 1025 0 [])), (26, (i6 r124.2)), (109, (.d (.list 1 (([a1, ([r38.1, r39.1, r40.1, r41.1] : List api_Prefix), p33] : List (List api_Prefix)).map e_LeapiPrefix)))), (110, (i6 (([a1, ([r38.1, r39.1, r40.1, r41.1] : List api_Prefix), p33] : List (List api_Prefix)).length : Int))), (111, (i6 s47)), (119, (.d (.list 1 (([a2, ([(api_Span.mk r42.1 (w64 ((4 : Int) + r43.1))), (api_Span.mk (w64 ((9 : Int) + r44.1)) (20 : Int)), (api_Span.mk r45 (w64 ((4294967295 : Int) + r46)))] : List api_Span), ((([(api_Span.mk r42.1 (w64 ((4 : Int) + r43.1))), (api_Span.mk (w64 ((9 : Int) + r44.1)) (20 : Int)), (api_Span.mk r45 (w64 ((4294967295 : Int) + r46)))] : List api_Span).take 2).drop 0)] : List (List api_Span)).map e_LeapiSpan)))), (120, (i6 (([a2, ([(api_Span.mk r42.1 (w64 ((4 : Int) + r43.1))), (api_Span.mk (w64 ((9 : Int) + r44.1)) (20 : Int)), (api_Span.mk r45 (w64 ((4294967295 : Int) + r46)))] : List api_Span), ((([(api_Span.mk r42.1 (w64 ((4 : Int) + r43.1))), (api_Span.mk (w64 ((9 : Int) + r44.1)) (20 : Int)), (api_Span.mk r45 (w64 ((4294967295 : Int) + r46)))] : List api_Span).take 2).drop 0)] : List (List api_Span)).length : Int))), (121, (i6 s107))] [(500, some (.know (globF 0 [35, 37, 137]))), (501, some (.know (globF 1 [70, 138, 139]))), (1014, some (.box 28 (.d (e_api_Resources r5.1)))), (1025, some (.box 28 (.d (e_api_Resources r124.1))))] hB) ?_
                  obtain ⟨r125, hr125, h⟩ := bindS h
                  refine sr (c (mv hN (q 22)) rfl (c (mv hN (q 24)) rfl (cg (OpJ.callFn hB fnOk24 (exchangepointref21_Of_ac x105 x123 r125 hr125) [] (by kernel_rfl) (L rfl) (by kernel_rfl) (OpdL.cons (q 132) (OpdL.cons (q 133) OpdL.nil))) rfl (c (mv hN (q 134)) rfl (c (OpJ.extract (by rfl) rfl (L rfl) (q 131)) rfl (c (OpJ.extract (by rfl) rfl (L rfl) (q 131)) rfl (cg (OpJ.alloc hB tyZ28 (nm := 1027) (by decide) (L rfl)) rfl (cg (OpJ.storeB tyS28 (SetAt.here _ _) (by rfl) (by rfl) (by simp) rfl (q 27) (q 135)) rfl (c (OpJ.assign (L rfl) (q 136)) rfl cn))))))))) ?_
                  refine gh [(2, _), (14, _), (20, _), (22, _), (25, _), (26, _), (27, _), (28, _), (109, _), (110, _), (111, _), (119, _), (120, _), (121, _)] [(500, some _), (501, some _), (1014, some _), (1025, some _), (1027, some _)] hB rfl rfl (by rfl) ?_
                  obtain ⟨r126, hr126, h⟩ := bindS h
                  refine sr (c (lb hN 28 _ _ tyS28 (At.here _) (q 25)) rfl (c (lb hN 28 _ _ tyS28 (At.here _) (q 27)) rfl (cg (OpJ.callFn hB fnOk25 (exchangepointref21_Same_ac r124.1 r125.1 r126 hr126) [] (by kernel_rfl) (L rfl) (by kernel_rfl) (OpdL.cons (q 137) (OpdL.cons (q 138) OpdL.nil))) rfl (c (OpJ.not (L rfl) (q 139)) rfl (c (mv hN (q 140)) rfl (c (oq hN 141 (mv hN (q 26)) (OptL.keep (by rfl) OptL.nil) (GuardV.plain _)) rfl (c (oq hN 141 (mv hN (q 28)) (OptL.keep (by rfl) OptL.nil) (GuardV.plain _)) rfl (c (oq hN 141 (OpJ.neqI (L rfl) (q 142) (q 143)) (OptL.opt (OptL.opt OptL.nil)) (GuardV.plain _)) rfl (c (OpJ.pickOr rfl (L rfl) (q 141) (q 144)) rfl cn))))))))) ?_
                  refine gh [(2, _), (14, _), (20, _), (22, _), (109, _), (110, _), (111, _), (119, _), (120, _), (121, _), (145, _)] [(500, some _), (501, some _), (1014, some _)] hB rfl rfl (by rfl) ?_
                  refine AWp.cond rfl (fun hg127 => ?_) (fun hg127 => ?_)
                  · replace h := ite_t hg127 h
                    refine sr (c (OpJ.assign (L rfl) (Opd.bool false)) rfl cn) ?_
                    refine gh [(12, _)] [(500, some _), (501, some _)] hB rfl rfl (by rfl) ?_
                    refine AWp.ret ?_
                    refine blkQ_r ?_
                    refine seqQ_r ?_
                    obtain rfl := Option.some.inj h
                    exact ⟨(fun hc => by cases hc), rfl, (mp [] _ _ hB)⟩
                  · replace h := ite_f hg127 h
                    refine AWp.skip ?_
                    refine blkQ_n ?_
                    refine seqQ_n ?_
                    refine rg (c (add6 (L rfl) (q 121) (Opd.int .i64 (1))) rfl (c (mv hN (q 146)) rfl cn)) ?_
                    obtain rfl := Option.some.inj h
                    exact ⟨rfl, (Mat.trans (mp [] [(2, (qe_api_Span_2 a2)), (14, (.ptr 1014 0 [])), (20, (qe_api_Span_2 ([(api_Span.mk r42.1 (w64 ((4 : Int) + r43.1))), (api_Span.mk (w64 ((9 : Int) + r44.1)) (20 : Int)), (api_Span.mk r45 (w64 ((4294967295 : Int) + r46)))] : List api_Span))), (22, (qe_api_Prefix_4 x105)), (109, (.d (.list 1 (([a1, ([r38.1, r39.1, r40.1, r41.1] : List api_Prefix), p33] : List (List api_Prefix)).map e_LeapiPrefix)))), (110, (i6 (([a1, ([r38.1, r39.1, r40.1, r41.1] : List api_Prefix), p33] : List (List api_Prefix)).length : Int))), (111, (i6 s47)), (119, (.d (.list 1 (([a2, ([(api_Span.mk r42.1 (w64 ((4 : Int) + r43.1))), (api_Span.mk (w64 ((9 : Int) + r44.1)) (20 : Int)), (api_Span.mk r45 (w64 ((4294967295 : Int) + r46)))] : List api_Span), ((([(api_Span.mk r42.1 (w64 ((4 : Int) + r43.1))), (api_Span.mk (w64 ((9 : Int) + r44.1)) (20 : Int)), (api_Span.mk r45 (w64 ((4294967295 : Int) + r46)))] : List api_Span).take 2).drop 0)] : List (List api_Span)).map e_LeapiSpan)))), (120, (i6 (([a2, ([(api_Span.mk r42.1 (w64 ((4 : Int) + r43.1))), (api_Span.mk (w64 ((9 : Int) + r44.1)) (20 : Int)), (api_Span.mk r45 (w64 ((4294967295 : Int) + r46)))] : List api_Span), ((([(api_Span.mk r42.1 (w64 ((4 : Int) + r43.1))), (api_Span.mk (w64 ((9 : Int) + r44.1)) (20 : Int)), (api_Span.mk r45 (w64 ((4294967295 : Int) + r46)))] : List api_Span).take 2).drop 0)] : List (List api_Span)).length : Int))), (121, (i6 (w64 (s107 + (1 : Int)))))] [(500, some (.know (globF 0 [35, 37, 137]))), (501, some (.know (globF 1 [70, 138, 139]))), (1014, some (.box 28 (.d (e_api_Resources r5.1))))] hB) (mp [] _ _ hB))⟩
                · replace h := ite_f hg122 h
                  refine AWp.exit ?_
                  refine seqQ_e ?_
                  obtain rfl := Option.some.inj h
                  exact ⟨(fun hc => by cases hc), rfl, (mp [] _ _ hB)⟩
              · rcases x128 with _ | _
                · obtain ⟨rfl, hmat⟩ := hR
                  refine blkQ_r ?_
                  refine blkQ_r ?_
                  refine seqQ_r ?_
                  obtain rfl := Option.some.inj h
                  exact ⟨(fun hc => by cases hc), rfl, (Mat.trans hmat (mp [] _ _ hB))⟩
                · obtain ⟨rfl, hmat⟩ := hR
                  refine blkQ_hit ?_
                  refine blkQ_n ?_
                  refine seqQ_n ?_
                  refine AWp.ghost hmat ?_
                  refine rg (c (add6 (L rfl) (q 111) (Opd.int .i64 (1))) rfl (c (mv hN (q 147)) rfl cn)) ?_
                  obtain rfl := Option.some.inj h
                  exact ⟨rfl, (Mat.trans (mp [] [(2, (qe_api_Span_2 a2)), (14, (.ptr 1014 0 [])), (20, (qe_api_Span_2 ([(api_Span.mk r42.1 (w64 ((4 : Int) + r43.1))), (api_Span.mk (w64 ((9 : Int) + r44.1)) (20 : Int)), (api_Span.mk r45 (w64 ((4294967295 : Int) + r46)))] : List api_Span))), (109, (.d (.list 1 (([a1, ([r38.1, r39.1, r40.1, r41.1] : List api_Prefix), p33] : List (List api_Prefix)).map e_LeapiPrefix)))), (110, (i6 (([a1, ([r38.1, r39.1, r40.1, r41.1] : List api_Prefix), p33] : List (List api_Prefix)).length : Int))), (111, (i6 (w64 (s47 + (1 : Int)))))] [(500, some (.know (globF 0 [35, 37, 137]))), (501, some (.know (globF 1 [70, 138, 139]))), (1014, some (.box 28 (.d (e_api_Resources r5.1))))] hB) (mp [] _ _ hB))⟩
            · replace h := ite_f hg104 h
              refine AWp.exit ?_
              refine seqQ_e ?_
              obtain rfl := Option.some.inj h
              exact ⟨(fun hc => by cases hc), rfl, (mp [] _ _ hB)⟩
          · rcases x130 with _ | _
            · obtain ⟨rfl, hmat⟩ := hR
              refine blkQ_r ?_
              refine seqQ_r ?_
              obtain rfl := Option.some.inj h
              exact ⟨.inl rfl, _, _, (Mat.trans hmat (mp [] [(12, (bo false))] [(500, some (.know (globF 0 [35, 37, 137]))), (501, some (.know (globF 1 [70, 138, 139])))] hB)), [(bo false)], (Res.tmp (by rfl) (by rfl) Res.nil), rfl, by rfl, by rfl, by rfl⟩
            · obtain ⟨rfl, hmat⟩ := hR
              refine blkQ_hit ?_
              refine seqQ_n ?_
              refine AWp.ghost hmat ?_
              refine AWp.seq ?_
              refine AWp.cut h (fun m136 : Bool => ([(12, (bo m136))] : EL)) (fun m136 : Bool => ([(500, some (.know (globF 0 [35, 37, 137]))), (501, some (.know (globF 1 [70, 138, 139])))] : OL)) (fun m136 h E' O' hmat => ?_) (fun j137 hjj137 h => ?_)
              · refine seqQ_n ?_
                refine AWp.ghost hmat ?_
                refine AWp.ret ?_
                obtain rfl := Option.some.inj h
                exact ⟨.inl rfl, _, _, (kp [(12, _)] [(500, some _), (501, some _)] hB rfl rfl (by rfl)), [(bo m136)], (Res.tmp (by rfl) (by rfl) Res.nil), rfl, by rfl, by rfl, by rfl⟩
              · obtain ⟨r138, hr138, h⟩ := bindS h
                rcases Bool.eq_false_or_eq_true r138 with hg139 | hg139
                · replace h := ite_t hg139 h
                  obtain ⟨r140, hr140, h⟩ := bindS h
                  refine AWp.region (oc (lb hN 28 (.d (e_api_Resources r5.1)) (.d (e_api_Resources r5.1)) tyS28 (At.here _) (ot 14 (.ptr 1014 0 [])))
                    (oc (OpJ.callFn hB fnOk20 (resource_Valid_ac r5.1 r138 hr138) [(500, 500), (501, 501)] (by kernel_rfl) (L rfl) (by kernel_rfl) (OpdL.cons (ot 148 (.d (e_api_Resources r5.1))) OpdL.nil))
                    (oc (OpJ.val (v' := .d (.bool true)) (by rw [hg139] <;> rfl) (mv hN (ot 149 (bo r138))))
                    (oc (OpJ.guarded (g := 150) (by rfl) (OpJ.callFn hB fnOk17 (exchangepointlaw21_awake_ac  r140 hr140) [(500, 500), (501, 501)] (by kernel_rfl) (L rfl) (by kernel_rfl) OpdL.nil))
                    (oc (OpJ.pickT (L rfl) (ot 150 (bo true)) (ot 151 (bo r140)))
                    (oc (OpJ.assign (L rfl) (ot 152 (bo r140)))
                    (OpJs.nil))))))) (by rfl) (by rfl) ?_
                  exact hjj137 _ h _ _ (Mat.trans (mp [] [(12, (bo r140))] [(500, some (.know (globF 0 [35, 37, 137]))), (501, some (.know (globF 1 [70, 138, 139])))] hB) (mp [] _ _ hB))
                · replace h := ite_f hg139 h
                  refine AWp.region (oc (lb hN 28 (.d (e_api_Resources r5.1)) (.d (e_api_Resources r5.1)) tyS28 (At.here _) (ot 14 (.ptr 1014 0 [])))
                    (oc (OpJ.callFn hB fnOk20 (resource_Valid_ac r5.1 r138 hr138) [(500, 500), (501, 501)] (by kernel_rfl) (L rfl) (by kernel_rfl) (OpdL.cons (ot 148 (.d (e_api_Resources r5.1))) OpdL.nil))
                    (oc (OpJ.val (v' := .d (.bool false)) (by rw [hg139] <;> rfl) (mv hN (ot 149 (bo r138))))
                    (oc (OpJ.skipU (g := 150) (L rfl) (by rfl))
                    (oc (OpJ.pickF (L rfl) (ot 150 (bo false)) (Opd.bool false))
                    (oc (OpJ.assign (L rfl) (ot 152 (bo false)))
                    (OpJs.nil))))))) (by rfl) (by rfl) ?_
                  exact hjj137 _ h _ _ (Mat.trans (mp [] [(12, (bo false))] [(500, some (.know (globF 0 [35, 37, 137]))), (501, some (.know (globF 1 [70, 138, 139])))] hB) (mp [] _ _ hB))

noncomputable def exchangepointref02_Cmp (a0 : api_Prefix) (a1 : api_Prefix) : Option (Int) :=
  (exchangepointref01_Cmp a0.fAddr a1.fAddr).bind fun r1 =>
  (if (r1 != (0 : Int)) = true then
  some r1
  else
  (if (decide (a0.fLen < a1.fLen)) = true then
  some (-1 : Int)
  else
  (if (decide (a1.fLen < a0.fLen)) = true then
  some (1 : Int)
  else
  some (0 : Int))))
set_option maxHeartbeats 4000000 in
set_option maxRecDepth 100000 in
theorem exchangepointref02_Cmp_ac (a0 : api_Prefix) (a1 : api_Prefix) (r : Int) (h : exchangepointref02_Cmp a0 a1 = some r) : AC Tryd.prog 26 [(.d (e_api_Prefix a0)), (.d (e_api_Prefix a1))] [] (.d (.int .i64 r)) [] := by
  refine AC.of_code2 Tryd.func26 rfl rfl (Nat.le_of_ble_eq_true (by rfl)) fun B hB hN => ?_
  have L {d : Nat} (h : Nat.blt d Tryd.f26.ntmps = true) : d < B.N := ltN hN h
  delta exchangepointref02_Cmp at h
  refine sr (cg (OpJ.box hB (nm := 1002) (by decide) (by simp) rfl (L rfl) (q 0)) rfl (cg (OpJ.box hB (nm := 1003) (by decide) (by simp) rfl (L rfl) (q 1)) rfl (c (OpJ.assign (L rfl) (Opd.int .i64 (0))) rfl cn))) ?_
  refine gh [(2, _), (3, _)] [(1002, some _), (1003, some _)] hB rfl rfl (by rfl) ?_
  refine AWp.seq ?_
  obtain ⟨r1, hr1, h⟩ := bindS h
  refine sr (c (ov (.ptr 1002 0 [0]) (fp hN Tryd.underlying34 0 tyS32 _ (q 2))) rfl (c (lb hN 34 _ _ tyS32 (ad _) (q 6)) rfl (c (ov (.ptr 1003 0 [0]) (fp hN Tryd.underlying34 0 tyS32 _ (q 3))) rfl (c (lb hN 34 _ _ tyS32 (ad _) (q 8)) rfl (cg (OpJ.callFn hB fnOk41 (exchangepointref01_Cmp_ac a0.fAddr a1.fAddr r1 hr1) [] (by kernel_rfl) (L rfl) (by kernel_rfl) (OpdL.cons (q 7) (OpdL.cons (q 9) OpdL.nil))) rfl (c (OpJ.assign (L rfl) (q 10)) rfl cn)))))) ?_
  refine gh [(2, _), (3, _), (5, _)] [(1002, some _), (1003, some _)] hB rfl rfl (by rfl) ?_
  refine sr (c (mv hN (q 5)) rfl (c (OpJ.neqI (L rfl) (q 11) (Opd.int .i64 (0))) rfl cn)) ?_
  refine gh [(2, _), (3, _), (5, _), (12, _)] [(1002, some _), (1003, some _)] hB rfl rfl (by rfl) ?_
  refine AWp.cond rfl (fun hg2 => ?_) (fun hg2 => ?_)
  · replace h := ite_t hg2 h
    refine sr (c (mv hN (q 5)) rfl (c (OpJ.assign (L rfl) (q 13)) rfl cn)) ?_
    refine gh [(4, _)] [] hB rfl rfl (by rfl) ?_
    refine AWp.ret ?_
    refine seqQ_r ?_
    obtain rfl := Option.some.inj h
    exact ⟨.inl rfl, _, _, (kp [(4, _)] [] hB rfl rfl (by rfl)), [(i6 r1)], (Res.tmp (by rfl) (by rfl) Res.nil), rfl, by rfl, by rfl, by rfl⟩
  · replace h := ite_f hg2 h
    refine AWp.skip ?_
    refine seqQ_n ?_
    refine AWp.seq ?_
    refine AWp.block ?_
    refine sr (c (ov (.ptr 1002 3 [1]) (fp hN Tryd.underlying34 3 tyS3 _ (q 2))) rfl (c (lb hN 34 _ _ tyS3 (ad _) (q 15)) rfl (c (ov (.ptr 1003 3 [1]) (fp hN Tryd.underlying34 3 tyS3 _ (q 3))) rfl (c (lb hN 34 _ _ tyS3 (ad _) (q 17)) rfl (c (OpJ.lss (L rfl) (q 16) (q 18)) rfl (c (OpJ.assign (L rfl) (q 19)) rfl cn)))))) ?_
    refine gh [(2, _), (3, _), (14, _)] [(1002, some _), (1003, some _)] hB rfl rfl (by rfl) ?_
    refine AWp.cond rfl (fun hg3 => ?_) (fun hg3 => ?_)
    · replace h := ite_t hg3 h
      refine sr (c (OpJ.assign (L rfl) (Opd.int .i64 (-1))) rfl cn) ?_
      refine gh [(4, _)] [] hB rfl rfl (by rfl) ?_
      refine AWp.ret ?_
      refine blkQ_r ?_
      refine seqQ_r ?_
      obtain rfl := Option.some.inj h
      exact ⟨.inl rfl, _, _, (kp [(4, _)] [] hB rfl rfl (by rfl)), [(i6 (-1 : Int))], (Res.tmp (by rfl) (by rfl) Res.nil), rfl, by rfl, by rfl, by rfl⟩
    · replace h := ite_f hg3 h
      refine sr (c (ov (.ptr 1002 3 [1]) (fp hN Tryd.underlying34 3 tyS3 _ (q 2))) rfl (c (lb hN 34 _ _ tyS3 (ad _) (q 21)) rfl (c (ov (.ptr 1003 3 [1]) (fp hN Tryd.underlying34 3 tyS3 _ (q 3))) rfl (c (lb hN 34 _ _ tyS3 (ad _) (q 23)) rfl (c (OpJ.gtr (L rfl) (q 22) (q 24)) rfl (c (OpJ.assign (L rfl) (q 25)) rfl cn)))))) ?_
      refine gh [(20, _)] [] hB rfl rfl (by rfl) ?_
      refine AWp.cond rfl (fun hg4 => ?_) (fun hg4 => ?_)
      · replace h := ite_t hg4 h
        refine sr (c (OpJ.assign (L rfl) (Opd.int .i64 (1))) rfl cn) ?_
        refine gh [(4, _)] [] hB rfl rfl (by rfl) ?_
        refine AWp.ret ?_
        refine blkQ_r ?_
        refine seqQ_r ?_
        obtain rfl := Option.some.inj h
        exact ⟨.inl rfl, _, _, (kp [(4, _)] [] hB rfl rfl (by rfl)), [(i6 1)], (Res.tmp (by rfl) (by rfl) Res.nil), rfl, by rfl, by rfl, by rfl⟩
      · replace h := ite_f hg4 h
        refine AWp.skip ?_
        refine blkQ_n ?_
        refine seqQ_n ?_
        refine sr (c (OpJ.assign (L rfl) (Opd.int .i64 (0))) rfl cn) ?_
        refine gh [(4, _)] [] hB rfl rfl (by rfl) ?_
        refine AWp.ret ?_
        obtain rfl := Option.some.inj h
        exact ⟨.inl rfl, _, _, (kp [(4, _)] [] hB rfl rfl (by rfl)), [(i6 0)], (Res.tmp (by rfl) (by rfl) Res.nil), rfl, by rfl, by rfl, by rfl⟩

noncomputable def exchangepointref02_Contains (a0 : api_Prefix) (a1 : api_Addr) : Option (Bool) :=
  (exchangepointref02_Make a1 a0.fLen).bind fun r1 =>
  some ((r1.2 == (0 : Int)) && (((r1.1.fAddr.fV6 == a0.fAddr.fV6) && ((r1.1.fAddr.fHi == a0.fAddr.fHi) && ((r1.1.fAddr.fLo == a0.fAddr.fLo) && true))) && ((r1.1.fLen == a0.fLen) && true)))
set_option maxHeartbeats 4000000 in
set_option maxRecDepth 100000 in
theorem exchangepointref02_Contains_ac (a0 : api_Prefix) (a1 : api_Addr) (r : Bool) (h : exchangepointref02_Contains a0 a1 = some r) : AC Tryd.prog 62 [(.d (e_api_Prefix a0)), (.d (e_api_Addr a1))] [] (.d (.bool r)) [] := by
  refine AC.of_code2 Tryd.func62 rfl rfl (Nat.le_of_ble_eq_true (by rfl)) fun B hB hN => ?_
  delta exchangepointref02_Contains at h
  refine sr (cg (OpJ.box hB (nm := 1002) (by decide) (by simp) rfl (ltN hN rfl) (q 0)) rfl (cg (OpJ.box hB (nm := 1003) (by decide) (by simp) rfl (ltN hN rfl) (q 1)) rfl (c (OpJ.assign (ltN hN rfl) (Opd.bool false)) rfl cn))) ?_
  refine gh [(2, _), (3, _)] [(1002, some _), (1003, some _)] hB rfl rfl (by rfl) ?_
  obtain ⟨r1, hr1, h⟩ := bindS h
  refine sr (c (lb hN 32 _ _ tyS32 (At.here _) (q 3)) rfl (c (ov (.ptr 1002 3 [1]) (fp hN Tryd.underlying34 3 tyS3 _ (q 2))) rfl (c (lb hN 34 _ _ tyS3 (ad _) (q 9)) rfl (cg (OpJ.callFn hB fnOk33 (exchangepointref02_Make_ac a1 a0.fLen r1 hr1) [] (by kernel_rfl) (ltN hN rfl) (by kernel_rfl) (OpdL.cons (q 8) (OpdL.cons (q 10) OpdL.nil))) rfl (c (mv hN (q 11)) rfl (c (OpJ.extract (by rfl) rfl (ltN hN rfl) (q 7)) rfl (c (OpJ.extract (by rfl) rfl (ltN hN rfl) (q 7)) rfl (cg (OpJ.alloc hB tyZ34 (nm := 1005) (by decide) (ltN hN rfl)) rfl (cg (OpJ.storeB tyS34 (SetAt.here _ _) (by rfl) (by rfl) (by simp) rfl (q 5) (q 12)) rfl (c (OpJ.assign (ltN hN rfl) (q 13)) rfl cn)))))))))) ?_
  refine gh [(2, _), (5, _), (6, _)] [(1002, some _), (1005, some _)] hB rfl rfl (by rfl) ?_
  refine sr (c (mv hN (q 6)) rfl (c (OpJ.eqlI (ltN hN rfl) (q 14) (Opd.int .i64 (0))) rfl (c (mv hN (q 15)) rfl (c (oq hN 16 (lb hN 34 _ _ tyS34 (At.here _) (q 5)) (OptL.keep (by rfl) OptL.nil) (GuardV.plain _)) rfl (c (oq hN 16 (lb hN 34 _ _ tyS34 (At.here _) (q 2)) (OptL.keep (by rfl) OptL.nil) (GuardV.plain _)) rfl (c (oq hN 16 (OpJ.eqlD (h := 3) (FitE.st Tryd.underlying34 rfl held34 (FitF.cons (x := (e_api_Addr r1.1.fAddr)) (y := (e_api_Addr a0.fAddr)) (by decide) rfl tyS32 ⟨rfl, rfl⟩ ⟨rfl, rfl⟩ (FitE.st Tryd.underlying32 rfl held32 (FitF.cons (x := (.bool r1.1.fAddr.fV6)) (y := (.bool a0.fAddr.fV6)) (by decide) rfl tyS4 ⟨rfl, rfl⟩ ⟨rfl, rfl⟩ (FitE.bool (h := 0) r1.1.fAddr.fV6 a0.fAddr.fV6 Tryd.underlying4) (FitF.cons (x := (.int .u64 r1.1.fAddr.fHi)) (y := (.int .u64 a0.fAddr.fHi)) (by decide) rfl tyS30 ⟨rfl, rfl⟩ ⟨rfl, rfl⟩ (FitE.int (h := 0) r1.1.fAddr.fHi a0.fAddr.fHi Tryd.underlying30) (FitF.cons (x := (.int .u64 r1.1.fAddr.fLo)) (y := (.int .u64 a0.fAddr.fLo)) (by decide) rfl tyS30 ⟨rfl, rfl⟩ ⟨rfl, rfl⟩ (FitE.int (h := 0) r1.1.fAddr.fLo a0.fAddr.fLo Tryd.underlying30) FitF.nil)))) (FitF.cons (x := (.int .i64 r1.1.fLen)) (y := (.int .i64 a0.fLen)) (by decide) rfl tyS3 ⟨rfl, rfl⟩ ⟨rfl, rfl⟩ (FitE.int (h := 1) r1.1.fLen a0.fLen Tryd.underlying3) FitF.nil))) eqg34 ⟨rfl, rfl⟩ (by rfl) (ltN hN rfl) (q 17) (q 18)) (OptL.opt (OptL.opt OptL.nil)) (GuardV.plain _)) rfl (c (OpJ.pickAnd rfl (ltN hN rfl) (q 16) (q 19)) rfl (c (OpJ.assign (ltN hN rfl) (q 20)) rfl cn)))))))) ?_
  refine gh [(4, _)] [] hB rfl rfl (by rfl) ?_
  refine AWp.ret ?_
  obtain rfl := Option.some.inj h
  exact ⟨.inl rfl, _, _, (kp [(4, _)] [] hB rfl rfl (by rfl)), [(bo ((r1.2 == (0 : Int)) && (((r1.1.fAddr.fV6 == a0.fAddr.fV6) && ((r1.1.fAddr.fHi == a0.fAddr.fHi) && ((r1.1.fAddr.fLo == a0.fAddr.fLo) && true))) && ((r1.1.fLen == a0.fLen) && true))))], (Res.tmp (by rfl) (by rfl) Res.nil), rfl, by rfl, by rfl, by rfl⟩

noncomputable def exchangepointref02_Covers (a0 : api_Prefix) (a1 : api_Prefix) : Option (Bool) :=
  jn (fun m3 : Bool =>
  some m3) (fun j4 =>
  (if (decide (a0.fLen ≤ a1.fLen)) = true then
  (exchangepointref02_Contains a0 a1.fAddr).bind fun r6 =>
  j4 r6
  else
  j4 false))
set_option maxHeartbeats 4000000 in
set_option maxRecDepth 100000 in
theorem exchangepointref02_Covers_ac (a0 : api_Prefix) (a1 : api_Prefix) (r : Bool) (h : exchangepointref02_Covers a0 a1 = some r) : AC Tryd.prog 27 [(.d (e_api_Prefix a0)), (.d (e_api_Prefix a1))] [] (.d (.bool r)) [] := by
  refine AC.of_code2 Tryd.func27 rfl rfl (Nat.le_of_ble_eq_true (by rfl)) fun B hB hN => ?_
  have L {d : Nat} (h : Nat.blt d Tryd.f27.ntmps = true) : d < B.N := ltN hN h
  delta exchangepointref02_Covers at h
  refine sr (cg (OpJ.box hB (nm := 1002) (by decide) (by simp) rfl (L rfl) (q 0)) rfl (cg (OpJ.box hB (nm := 1003) (by decide) (by simp) rfl (L rfl) (q 1)) rfl (c (OpJ.assign (L rfl) (Opd.bool false)) rfl cn))) ?_
  refine gh [(2, _), (3, _)] [(1002, some _), (1003, some _)] hB rfl rfl (by rfl) ?_
  refine AWp.seq ?_
  refine AWp.cut h (fun m3 : Bool => ([(4, (bo m3))] : EL)) (fun m3 : Bool => ([] : OL)) (fun m3 h E' O' hmat => ?_) (fun j4 hjj4 h => ?_)
  · refine seqQ_n ?_
    refine AWp.ghost hmat ?_
    refine AWp.ret ?_
    obtain rfl := Option.some.inj h
    exact ⟨.inl rfl, _, _, (kp [(4, _)] [] hB rfl rfl (by rfl)), [(bo m3)], (Res.tmp (by rfl) (by rfl) Res.nil), rfl, by rfl, by rfl, by rfl⟩
  · rcases Bool.eq_false_or_eq_true (decide (a0.fLen ≤ a1.fLen)) with hg5 | hg5
    · replace h := ite_t hg5 h
      obtain ⟨r6, hr6, h⟩ := bindS h
      refine rg (c (ov (.ptr 1003 3 [1]) (fp hN Tryd.underlying34 3 tyS3 _ (q 3))) rfl (c (lb hN 34 _ _ tyS3 (ad _) (q 5)) rfl (c (ov (.ptr 1002 3 [1]) (fp hN Tryd.underlying34 3 tyS3 _ (q 2))) rfl (c (lb hN 34 _ _ tyS3 (ad _) (q 7)) rfl (c (OpJ.geq (L rfl) (q 6) (q 8)) rfl (c (OpJ.val (v' := .d (.bool true)) (by rw [hg5] <;> rfl) (mv hN (q 9))) rfl (c (OpJ.guarded (g := 10) (by rfl) (lb hN 34 _ _ tyS34 (At.here _) (q 2))) rfl (c (OpJ.guarded (g := 10) (by rfl) (ov (.ptr 1003 0 [0]) (fp hN Tryd.underlying34 0 tyS32 _ (q 3)))) rfl (c (OpJ.guarded (g := 10) (by rfl) (lb hN 34 _ _ tyS32 (ad _) (q 12))) rfl (cg (OpJ.guarded (g := 10) (by rfl) (OpJ.callFn hB fnOk62 (exchangepointref02_Contains_ac a0 a1.fAddr r6 hr6) [] (by kernel_rfl) (L rfl) (by kernel_rfl) (OpdL.cons (q 11) (OpdL.cons (q 13) OpdL.nil)))) rfl (c (OpJ.pickT (L rfl) (q 10) (q 14)) rfl (c (OpJ.assign (L rfl) (q 15)) rfl cn)))))))))))) ?_
      exact hjj4 _ h _ _ (Mat.trans (mp [] [(4, (bo r6))] [] hB) (mp [] _ _ hB))
    · replace h := ite_f hg5 h
      refine rg (c (ov (.ptr 1003 3 [1]) (fp hN Tryd.underlying34 3 tyS3 _ (q 3))) rfl (c (lb hN 34 _ _ tyS3 (ad _) (q 5)) rfl (c (ov (.ptr 1002 3 [1]) (fp hN Tryd.underlying34 3 tyS3 _ (q 2))) rfl (c (lb hN 34 _ _ tyS3 (ad _) (q 7)) rfl (c (OpJ.geq (L rfl) (q 6) (q 8)) rfl (c (OpJ.val (v' := .d (.bool false)) (by rw [hg5] <;> rfl) (mv hN (q 9))) rfl (cg (OpJ.skipU (g := 10) (L rfl) (by rfl)) rfl (cg (OpJ.skipU (g := 10) (L rfl) (by rfl)) rfl (cg (OpJ.skipU (g := 10) (L rfl) (by rfl)) rfl (cg (OpJ.skipU (g := 10) (L rfl) (by rfl)) rfl (c (OpJ.pickF (L rfl) (q 10) (Opd.bool false)) rfl (c (OpJ.assign (L rfl) (q 15)) rfl cn)))))))))))) ?_
      exact hjj4 _ h _ _ (Mat.trans (mp [] [(4, (bo false))] [] hB) (mp [] _ _ hB))


end Go.Proofs.YtgcilleccigmdaaDoor

/- Printed by gen.py: the Go functions as plain functions, and that the code does what they say. -/
import Derived.Test.YtgcilleccigmdaaGreatDoorChecked
import Derived.Test.YtgcilleccigmdaaGreatDoorVcYB
import Derived.Test.YtgcilleccigmdaaGreatDoorVcZ
import Derived.KernelRfl
import Derived.Test.YtgcilleccigmdaaGreatDoorVcMD
import Derived.Test.YtgcilleccigmdaaGreatDoorVcMQ
import Derived.Test.YtgcilleccigmdaaGreatDoorVcSG
import Derived.Test.YtgcilleccigmdaaGreatDoorFnsC
import Derived.Test.YtgcilleccigmdaaGreatDoorExt
import Derived.Test.YtgcilleccigmdaaGreatDoorVcGl
import Derived.Test.YtgcilleccigmdaaGreatDoorVcSO
import Derived.Test.YtgcilleccigmdaaGreatDoorVcWS
namespace Go.Proofs.YtgcilleccigmdaaGreatDoor
open Go Go.Vc
set_option maxHeartbeats 4000000
set_option maxRecDepth 100000
noncomputable def exchangepointref21_Same_L0 (a0 : api_Resources) (a1 : api_Resources) (s2 : Int) : Option (((Unit) ⊕ (Unit)) ⊕ (Int)) :=
 (if (decide (s2 < (a0.fAddrs.length : Int))) = true then
 (idx a0.fAddrs s2).bind fun x14 =>
 (idx a1.fAddrs s2).bind fun x15 =>
 (if (!(((x15.fFrom.fV6 == x14.fFrom.fV6) && ((x15.fFrom.fHi == x14.fFrom.fHi) && ((x15.fFrom.fLo == x14.fFrom.fLo) && true))) && (((x15.fTo.fV6 == x14.fTo.fV6) && ((x15.fTo.fHi == x14.fTo.fHi) && ((x15.fTo.fLo == x14.fTo.fLo) && true))) && true))) = true then
 some (.inl (.inl ()))
 else
 some (.inr (w64 (s2 + (1 : Int)))))
 else
 some (.inl (.inr ())))
noncomputable def exchangepointref21_Same_L1 (a0 : api_Resources) (a1 : api_Resources) (s19 : Int) : Option (((Unit) ⊕ (Unit)) ⊕ (Int)) :=
 (if (decide (s19 < (a0.fASNs.length : Int))) = true then
 (idx a0.fASNs s19).bind fun x31 =>
 (idx a1.fASNs s19).bind fun x32 =>
 (if (!((x32.fFrom == x31.fFrom) && ((x32.fTo == x31.fTo) && true))) = true then
 some (.inl (.inl ()))
 else
 some (.inr (w64 (s19 + (1 : Int)))))
 else
 some (.inl (.inr ())))
noncomputable def exchangepointref21_Same (a0 : api_Resources) (a1 : api_Resources) : Option (Bool) :=
 (if (((a0.fAddrs.length : Int) != (a1.fAddrs.length : Int)) || ((a0.fASNs.length : Int) != (a1.fASNs.length : Int))) = true then
 some false
 else
 (loop (exchangepointref21_Same_L0 a0 a1) (0 : Int)).bind fun x17 => match x17 with
 | (.inl _) =>
  some false
 | (.inr _) =>
  (loop (exchangepointref21_Same_L1 a0 a1) (0 : Int)).bind fun x34 => match x34 with
  | (.inl _) =>
   some false
  | (.inr _) =>
   some true)
theorem exchangepointref21_Same_ac (a0 : api_Resources) (a1 : api_Resources) (r : Bool) (h : exchangepointref21_Same a0 a1 = some r) : AC Tryz.prog 16 [(.d (e_api_Resources a0)), (.d (e_api_Resources a1))] [] (.d (.bool r)) [] := by
 refine AC.of_code2 Tryz.func16 rfl rfl (Nat.le_of_ble_eq_true (by rfl)) fun B hB hN => ?_
 have L {d : Nat} (h : Nat.blt d Tryz.f16.ntmps = true) : d < B.N := ltN hN h
 delta exchangepointref21_Same at h
 refine sr (cg (OpJ.box hB (nm := 1002) (by decide) (by simp) rfl (L rfl) (q 0)) rfl (cg (OpJ.box hB (nm := 1003) (by decide) (by simp) rfl (L rfl) (q 1)) rfl (c (OpJ.assign (L rfl) (Opd.bool false)) rfl cn))) ?_
 refine gh [(2, _), (3, _)] [(1002, some _), (1003, some _)] hB rfl rfl (by rfl) ?_
 refine AWp.seq ?_
 refine sr (c (ov (.ptr 1002 0 [0]) (fp hN Tryz.underlying25 0 tyS22 _ (q 2))) rfl (c (lb hN 25 _ _ tyS22 (ad _) (q 9)) rfl (c (OpJ.val (v' := (i6 (a0.fAddrs.length : Int))) (by simp) (OpJ.lenD Tryz.underlying22 (L rfl) (q 10))) rfl (c (ov (.ptr 1003 0 [0]) (fp hN Tryz.underlying25 0 tyS22 _ (q 3))) rfl (c (lb hN 25 _ _ tyS22 (ad _) (q 12)) rfl (c (OpJ.val (v' := (i6 (a1.fAddrs.length : Int))) (by simp) (OpJ.lenD Tryz.underlying22 (L rfl) (q 13))) rfl (c (OpJ.neqI (L rfl) (q 11) (q 14)) rfl (c (mv hN (q 15)) rfl (c (oq hN 16 (ov (.ptr 1002 1 [1]) (fp hN Tryz.underlying25 1 tyS23 _ (q 2))) (OptL.keep (by rfl) OptL.nil) (GuardV.plain _)) rfl (c (oq hN 16 (lb hN 25 _ _ tyS23 (ad _) (q 17)) (OptL.opt OptL.nil) (GuardV.plain _)) rfl (c (oq hN 16 (OpJ.val (v' := (i6 (a0.fASNs.length : Int))) (by simp) (OpJ.lenD Tryz.underlying23 (L rfl) (q 18))) (OptL.opt OptL.nil) (GuardV.plain _)) rfl (c (oq hN 16 (ov (.ptr 1003 1 [1]) (fp hN Tryz.underlying25 1 tyS23 _ (q 3))) (OptL.keep (by rfl) OptL.nil) (GuardV.plain _)) rfl (c (oq hN 16 (lb hN 25 _ _ tyS23 (ad _) (q 20)) (OptL.opt OptL.nil) (GuardV.plain _)) rfl (c (oq hN 16 (OpJ.val (v' := (i6 (a1.fASNs.length : Int))) (by simp) (OpJ.lenD Tryz.underlying23 (L rfl) (q 21))) (OptL.opt OptL.nil) (GuardV.plain _)) rfl (c (oq hN 16 (OpJ.neqI (L rfl) (q 19) (q 22)) (OptL.opt (OptL.opt OptL.nil)) (GuardV.plain _)) rfl (c (OpJ.pickOr rfl (L rfl) (q 16) (q 23)) rfl cn)))))))))))))))) ?_
 refine gh [(2, _), (3, _), (24, _)] [(1002, some _), (1003, some _)] hB rfl rfl (by rfl) ?_
 refine AWp.cond rfl (fun hg1 => ?_) (fun hg1 => ?_)
 ·replace h := ite_t hg1 h
  refine sr (c (OpJ.assign (L rfl) (Opd.bool false)) rfl cn) ?_
  refine gh [(4, _)] [] hB rfl rfl (by rfl) ?_
  refine AWp.ret ?_
  refine seqQ_r ?_
  obtain rfl := Option.some.inj h
  exact ⟨.inl rfl, _, _, (kp [(4, _)] [] hB rfl rfl (by rfl)), [(bo false)], (Res.tmp (by rfl) (by rfl) Res.nil), rfl, by rfl, by rfl, by rfl⟩
 ·replace h := ite_f hg1 h
  refine AWp.skip ?_
  refine seqQ_n ?_
  refine AWp.seq ?_
  refine sr (c (ov (.ptr 1002 0 [0]) (fp hN Tryz.underlying25 0 tyS22 _ (q 2))) rfl (c (lb hN 25 _ _ tyS22 (ad _) (q 25)) rfl (c (OpJ.val (v' := (i6 (a0.fAddrs.length : Int))) (by simp) (OpJ.lenD Tryz.underlying22 (L rfl) (q 26))) rfl (c (mv hN (Opd.int .i64 (0))) rfl cn)))) ?_
  refine gh [(2, _), (3, _), (26, _), (27, _), (28, _)] [(1002, some _), (1003, some _)] hB rfl rfl (by rfl) ?_
  refine AWp.block ?_
  obtain ⟨x17, hx18, h⟩ := bindS h
  refine lg (exchangepointref21_Same_L0 a0 a1) (fun s2 : Int => ([(2, (.ptr 1002 0 [])), (3, (.ptr 1003 0 [])), (26, (qe_api_Range_6 a0.fAddrs)), (27, (i6 (a0.fAddrs.length : Int))), (28, (i6 s2))] : EL)) (fun s2 : Int => ([(1002, some (.box 25 (.d (e_api_Resources a0)))), (1003, some (.box 25 (.d (e_api_Resources a1))))] : OL)) (fun (x : (Unit) ⊕ (Unit)) e E' O' => match x with | (.inl _p) => e = .ret ∧ Mat B E' O' ([(4, (bo false))] : EL) ([] : OL) | (.inr _p) => e = .exit 0 ∧ Mat B E' O' ([(2, (.ptr 1002 0 [])), (3, (.ptr 1003 0 []))] : EL) ([(1002, some (.box 25 (.d (e_api_Resources a0)))), (1003, some (.box 25 (.d (e_api_Resources a1))))] : OL)) hx18 (mp [] _ _ hB) (fun s2 y h => ?_) (fun e E' O' hR => ?_)
  ·unfold exchangepointref21_Same_L0 at h
   refine sr (c (OpJ.lss (L rfl) (q 28) (q 27)) rfl cn) ?_
   refine gh [(2, _), (3, _), (26, _), (27, _), (28, _), (29, _)] [(1002, some _), (1003, some _)] hB rfl rfl (by rfl) ?_
   refine AWp.seq ?_
   refine AWp.cond rfl (fun hg13 => ?_) (fun hg13 => ?_)
   ·replace h := ite_t hg13 h
    refine AWp.skip ?_
    refine seqQ_n ?_
    refine AWp.seq ?_
    refine AWp.block ?_
    obtain ⟨x14, hx14, h⟩ := bindS h
    refine sr (c (mv hN (q 28)) rfl (c (OpJ.indexD Tryz.underlying22 tyS46 (idx_some hx14).1 (get_map e_api_Range (idx_some hx14).2) (L rfl) (q 26) (q 28)) rfl (c (OpJ.loadD tyS46 (by rfl) (by rfl) (L rfl) (q 31)) rfl (cg (OpJ.alloc hB tyZ46 (nm := 1006) (by decide) (L rfl)) rfl (c (OpJ.assign (L rfl) (q 30)) rfl (cg (OpJ.storeB tyS46 (SetAt.here _ _) (by rfl) (by rfl) (by simp) rfl (q 6) (q 32)) rfl cn)))))) ?_
    refine gh [(2, _), (3, _), (5, _), (6, _), (26, _), (27, _), (28, _)] [(1002, some _), (1003, some _), (1006, some _)] hB rfl rfl (by rfl) ?_
    obtain ⟨x15, hx15, h⟩ := bindS h
    refine sd (c (ov (.ptr 1003 0 [0]) (fp hN Tryz.underlying25 0 tyS22 _ (q 3))) rfl (c (lb hN 25 _ _ tyS22 (ad _) (q 33)) rfl (c (mv hN (q 5)) rfl (c (OpJ.indexD Tryz.underlying22 tyS46 (idx_some hx15).1 (get_map e_api_Range (idx_some hx15).2) (L rfl) (q 34) (q 35)) rfl (c (OpJ.loadD tyS46 (by rfl) (by rfl) (L rfl) (q 36)) rfl (c (lb hN 46 _ _ tyS46 (At.here _) (q 6)) rfl (c (OpJ.neqD (h := 3) (FitE.st Tryz.underlying46 rfl held46 (FitF.cons (x := (e_api_Addr x15.fFrom)) (y := (e_api_Addr x14.fFrom)) (by decide) rfl tyS42 ⟨rfl, rfl⟩ ⟨rfl, rfl⟩ (FitE.st Tryz.underlying42 rfl held42 (FitF.cons (x := (.bool x15.fFrom.fV6)) (y := (.bool x14.fFrom.fV6)) (by decide) rfl tyS4 ⟨rfl, rfl⟩ ⟨rfl, rfl⟩ (FitE.bool (h := 0) x15.fFrom.fV6 x14.fFrom.fV6 Tryz.underlying4) (FitF.cons (x := (.int .u64 x15.fFrom.fHi)) (y := (.int .u64 x14.fFrom.fHi)) (by decide) rfl tyS40 ⟨rfl, rfl⟩ ⟨rfl, rfl⟩ (FitE.int (h := 0) x15.fFrom.fHi x14.fFrom.fHi Tryz.underlying40) (FitF.cons (x := (.int .u64 x15.fFrom.fLo)) (y := (.int .u64 x14.fFrom.fLo)) (by decide) rfl tyS40 ⟨rfl, rfl⟩ ⟨rfl, rfl⟩ (FitE.int (h := 0) x15.fFrom.fLo x14.fFrom.fLo Tryz.underlying40) FitF.nil)))) (FitF.cons (x := (e_api_Addr x15.fTo)) (y := (e_api_Addr x14.fTo)) (by decide) rfl tyS42 ⟨rfl, rfl⟩ ⟨rfl, rfl⟩ (FitE.st Tryz.underlying42 rfl held42 (FitF.cons (x := (.bool x15.fTo.fV6)) (y := (.bool x14.fTo.fV6)) (by decide) rfl tyS4 ⟨rfl, rfl⟩ ⟨rfl, rfl⟩ (FitE.bool (h := 0) x15.fTo.fV6 x14.fTo.fV6 Tryz.underlying4) (FitF.cons (x := (.int .u64 x15.fTo.fHi)) (y := (.int .u64 x14.fTo.fHi)) (by decide) rfl tyS40 ⟨rfl, rfl⟩ ⟨rfl, rfl⟩ (FitE.int (h := 0) x15.fTo.fHi x14.fTo.fHi Tryz.underlying40) (FitF.cons (x := (.int .u64 x15.fTo.fLo)) (y := (.int .u64 x14.fTo.fLo)) (by decide) rfl tyS40 ⟨rfl, rfl⟩ ⟨rfl, rfl⟩ (FitE.int (h := 0) x15.fTo.fLo x14.fTo.fLo Tryz.underlying40) FitF.nil)))) FitF.nil))) eqg46 ⟨rfl, rfl⟩ (by rfl) (L rfl) (q 37) (q 38)) rfl cn))))))) (by kernel_rfl) (by kernel_rfl) ?_
    refine gh [(2, _), (3, _), (26, _), (27, _), (28, _), (39, _)] [(1002, some _), (1003, some _)] hB rfl rfl (by rfl) ?_
    refine AWp.cond rfl (fun hg16 => ?_) (fun hg16 => ?_)
    ·replace h := ite_t hg16 h
     refine sr (c (OpJ.assign (L rfl) (Opd.bool false)) rfl cn) ?_
     refine gh [(4, _)] [] hB rfl rfl (by rfl) ?_
     refine AWp.ret ?_
     refine blkQ_r ?_
     refine seqQ_r ?_
     obtain rfl := Option.some.inj h
     exact ⟨(fun hc => by cases hc), rfl, (mp [] _ _ hB)⟩
    ·replace h := ite_f hg16 h
     refine AWp.skip ?_
     refine blkQ_n ?_
     refine seqQ_n ?_
     refine rg (c (add6 (L rfl) (q 28) (Opd.int .i64 (1))) rfl (c (mv hN (q 40)) rfl cn)) ?_
     obtain rfl := Option.some.inj h
     exact ⟨rfl, (Mat.trans (mp [] [(2, (.ptr 1002 0 [])), (3, (.ptr 1003 0 [])), (26, (qe_api_Range_6 a0.fAddrs)), (27, (i6 (a0.fAddrs.length : Int))), (28, (i6 (w64 (s2 + (1 : Int)))))] [(1002, some (.box 25 (.d (e_api_Resources a0)))), (1003, some (.box 25 (.d (e_api_Resources a1))))] hB) (mp [] _ _ hB))⟩
   ·replace h := ite_f hg13 h
    refine AWp.exit ?_
    refine seqQ_e ?_
    obtain rfl := Option.some.inj h
    exact ⟨(fun hc => by cases hc), rfl, (mp [] _ _ hB)⟩
  ·rcases x17 with _ | _
   ·obtain ⟨rfl, hmat⟩ := hR
    refine blkQ_r ?_
    refine seqQ_r ?_
    obtain rfl := Option.some.inj h
    exact ⟨.inl rfl, _, _, (Mat.trans hmat (mp [] [(4, (bo false))] [] hB)), [(bo false)], (Res.tmp (by rfl) (by rfl) Res.nil), rfl, by rfl, by rfl, by rfl⟩
   ·obtain ⟨rfl, hmat⟩ := hR
    refine blkQ_hit ?_
    refine seqQ_n ?_
    refine AWp.ghost hmat ?_
    refine AWp.seq ?_
    refine sr (c (ov (.ptr 1002 1 [1]) (fp hN Tryz.underlying25 1 tyS23 _ (q 2))) rfl (c (lb hN 25 _ _ tyS23 (ad _) (q 41)) rfl (c (OpJ.val (v' := (i6 (a0.fASNs.length : Int))) (by simp) (OpJ.lenD Tryz.underlying23 (L rfl) (q 42))) rfl (c (mv hN (Opd.int .i64 (0))) rfl cn)))) ?_
    refine gh [(3, _), (42, _), (43, _), (44, _)] [(1003, some _)] hB rfl rfl (by rfl) ?_
    refine AWp.block ?_
    obtain ⟨x34, hx35, h⟩ := bindS h
    refine lg (exchangepointref21_Same_L1 a0 a1) (fun s19 : Int => ([(3, (.ptr 1003 0 [])), (42, (qe_api_Span_2 a0.fASNs)), (43, (i6 (a0.fASNs.length : Int))), (44, (i6 s19))] : EL)) (fun s19 : Int => ([(1003, some (.box 25 (.d (e_api_Resources a1))))] : OL)) (fun (x : (Unit) ⊕ (Unit)) e E' O' => match x with | (.inl _p) => e = .ret ∧ Mat B E' O' ([(4, (bo false))] : EL) ([] : OL) | (.inr _p) => e = .exit 2 ∧ Mat B E' O' ([] : EL) ([] : OL)) hx35 (mp [] _ _ hB) (fun s19 y h => ?_) (fun e E' O' hR => ?_)
    ·unfold exchangepointref21_Same_L1 at h
     refine sr (c (OpJ.lss (L rfl) (q 44) (q 43)) rfl cn) ?_
     refine gh [(3, _), (42, _), (43, _), (44, _), (45, _)] [(1003, some _)] hB rfl rfl (by rfl) ?_
     refine AWp.seq ?_
     refine AWp.cond rfl (fun hg30 => ?_) (fun hg30 => ?_)
     ·replace h := ite_t hg30 h
      refine AWp.skip ?_
      refine seqQ_n ?_
      refine AWp.seq ?_
      refine AWp.block ?_
      obtain ⟨x31, hx31, h⟩ := bindS h
      refine sr (c (mv hN (q 44)) rfl (c (OpJ.indexD Tryz.underlying23 tyS62 (idx_some hx31).1 (get_map e_api_Span (idx_some hx31).2) (L rfl) (q 42) (q 44)) rfl (c (OpJ.loadD tyS62 (by rfl) (by rfl) (L rfl) (q 47)) rfl (cg (OpJ.alloc hB tyZ62 (nm := 1008) (by decide) (L rfl)) rfl (c (OpJ.assign (L rfl) (q 46)) rfl (cg (OpJ.storeB tyS62 (SetAt.here _ _) (by rfl) (by rfl) (by simp) rfl (q 8) (q 48)) rfl cn)))))) ?_
      refine gh [(3, _), (7, _), (8, _), (42, _), (43, _), (44, _)] [(1003, some _), (1008, some _)] hB rfl rfl (by rfl) ?_
      obtain ⟨x32, hx32, h⟩ := bindS h
      refine sd (c (ov (.ptr 1003 1 [1]) (fp hN Tryz.underlying25 1 tyS23 _ (q 3))) rfl (c (lb hN 25 _ _ tyS23 (ad _) (q 49)) rfl (c (mv hN (q 7)) rfl (c (OpJ.indexD Tryz.underlying23 tyS62 (idx_some hx32).1 (get_map e_api_Span (idx_some hx32).2) (L rfl) (q 50) (q 51)) rfl (c (OpJ.loadD tyS62 (by rfl) (by rfl) (L rfl) (q 52)) rfl (c (lb hN 62 _ _ tyS62 (At.here _) (q 8)) rfl (c (OpJ.neqD (h := 2) (FitE.st Tryz.underlying62 rfl held62 (FitF.cons (x := (.int .i64 x32.fFrom)) (y := (.int .i64 x31.fFrom)) (by decide) rfl tyS3 ⟨rfl, rfl⟩ ⟨rfl, rfl⟩ (FitE.int (h := 0) x32.fFrom x31.fFrom Tryz.underlying3) (FitF.cons (x := (.int .i64 x32.fTo)) (y := (.int .i64 x31.fTo)) (by decide) rfl tyS3 ⟨rfl, rfl⟩ ⟨rfl, rfl⟩ (FitE.int (h := 0) x32.fTo x31.fTo Tryz.underlying3) FitF.nil))) eqg62 ⟨rfl, rfl⟩ (by rfl) (L rfl) (q 53) (q 54)) rfl cn))))))) (by kernel_rfl) (by kernel_rfl) ?_
      refine gh [(3, _), (42, _), (43, _), (44, _), (55, _)] [(1003, some _)] hB rfl rfl (by rfl) ?_
      refine AWp.cond rfl (fun hg33 => ?_) (fun hg33 => ?_)
      ·replace h := ite_t hg33 h
       refine sr (c (OpJ.assign (L rfl) (Opd.bool false)) rfl cn) ?_
       refine gh [(4, _)] [] hB rfl rfl (by rfl) ?_
       refine AWp.ret ?_
       refine blkQ_r ?_
       refine seqQ_r ?_
       obtain rfl := Option.some.inj h
       exact ⟨(fun hc => by cases hc), rfl, (mp [] _ _ hB)⟩
      ·replace h := ite_f hg33 h
       refine AWp.skip ?_
       refine blkQ_n ?_
       refine seqQ_n ?_
       refine rg (c (add6 (L rfl) (q 44) (Opd.int .i64 (1))) rfl (c (mv hN (q 56)) rfl cn)) ?_
       obtain rfl := Option.some.inj h
       exact ⟨rfl, (Mat.trans (mp [] [(3, (.ptr 1003 0 [])), (42, (qe_api_Span_2 a0.fASNs)), (43, (i6 (a0.fASNs.length : Int))), (44, (i6 (w64 (s19 + (1 : Int)))))] [(1003, some (.box 25 (.d (e_api_Resources a1))))] hB) (mp [] _ _ hB))⟩
     ·replace h := ite_f hg30 h
      refine AWp.exit ?_
      refine seqQ_e ?_
      obtain rfl := Option.some.inj h
      exact ⟨(fun hc => by cases hc), rfl, (mp [] _ _ hB)⟩
    ·rcases x34 with _ | _
     ·obtain ⟨rfl, hmat⟩ := hR
      refine blkQ_r ?_
      refine seqQ_r ?_
      obtain rfl := Option.some.inj h
      exact ⟨.inl rfl, _, _, (Mat.trans hmat (mp [] [(4, (bo false))] [] hB)), [(bo false)], (Res.tmp (by rfl) (by rfl) Res.nil), rfl, by rfl, by rfl, by rfl⟩
     ·obtain ⟨rfl, hmat⟩ := hR
      refine blkQ_hit ?_
      refine seqQ_n ?_
      refine AWp.ghost hmat ?_
      refine sr (c (OpJ.assign (L rfl) (Opd.bool true)) rfl cn) ?_
      refine gh [(4, _)] [] hB rfl rfl (by rfl) ?_
      refine AWp.ret ?_
      obtain rfl := Option.some.inj h
      exact ⟨.inl rfl, _, _, (kp [(4, _)] [] hB rfl rfl (by rfl)), [(bo true)], (Res.tmp (by rfl) (by rfl) Res.nil), rfl, by rfl, by rfl, by rfl⟩

noncomputable def resource_Covers (a0 : api_Resources) (a1 : api_Resources) : Option (Bool) :=
 (resource_of a1).bind fun r1 =>
 (resource_of a0).bind fun r2 =>
 (resource_set_minus r1 r2).bind fun r3 =>
 some ((w64 ((r3.faddrs.length : Int) + (r3.fasns.length : Int))) == (0 : Int))
theorem resource_Covers_ac (a0 : api_Resources) (a1 : api_Resources) (r : Bool) (h : resource_Covers a0 a1 = some r) : AC Tryz.prog 17 [(.d (e_api_Resources a0)), (.d (e_api_Resources a1))] [(500, (.know (globF 0 [50, 52, 133]))), (501, (.know (globF 1 [71, 134, 135])))] (.d (.bool r)) [(500, some (.know (globF 0 [50, 52, 133]))), (501, some (.know (globF 1 [71, 134, 135])))] := by
 refine AC.of_code2 Tryz.func17 rfl rfl (Nat.le_of_ble_eq_true (by rfl)) fun B hB hN => ?_
 delta resource_Covers at h
 refine sr (cg (OpJ.box hB (nm := 1002) (by decide) (by simp) rfl (ltN hN rfl) (q 0)) rfl (cg (OpJ.box hB (nm := 1003) (by decide) (by simp) rfl (ltN hN rfl) (q 1)) rfl (c (OpJ.assign (ltN hN rfl) (Opd.bool false)) rfl cn))) ?_
 refine gh [(2, _), (3, _)] [(500, some _), (501, some _), (1002, some _), (1003, some _)] hB rfl rfl (by rfl) ?_
 refine AWp.seq ?_
 obtain ⟨r1, hr1, h⟩ := bindS h
 obtain ⟨r2, hr2, h⟩ := bindS h
 obtain ⟨r3, hr3, h⟩ := bindS h
 refine AWp.draws (by kernel_rfl) (oc (lb hN 25 (.d (e_api_Resources a1)) (.d (e_api_Resources a1)) tyS25 (At.here _) (ot 3 (.ptr 1003 0 [])))
 (oc (OpJ.callFn hB fnOk29 (resource_of_ac a1 r1 hr1) [] (by kernel_rfl) (ltN hN rfl) (by kernel_rfl) (OpdL.cons (ot 6 (.d (e_api_Resources a1))) OpdL.nil))
 (oc (lb hN 25 (.d (e_api_Resources a0)) (.d (e_api_Resources a0)) tyS25 (At.here _) (ot 2 (.ptr 1002 0 [])))
 (oc (OpJ.callFn hB fnOk29 (resource_of_ac a0 r2 hr2) [] (by kernel_rfl) (ltN hN rfl) (by kernel_rfl) (OpdL.cons (ot 8 (.d (e_api_Resources a0))) OpdL.nil))
 (oc (OpJ.callFn hB fnOk37 (resource_set_minus_ac r1 r2 r3 hr3) [(500, 500), (501, 501)] (by kernel_rfl) (ltN hN rfl) (by kernel_rfl) (OpdL.cons (ot 7 (.d (e_resource_set r1))) (OpdL.cons (ot 9 (.d (e_resource_set r2))) OpdL.nil)))
 (oc (OpJ.alloc hB tyZ69 (nm := 1005) (by decide) (ltN hN rfl))
 (oc (OpJ.storeB (bt := 69) (c := (.st [.nils, .nils])) (v := (.d (e_resource_set r3))) (c' := (.d (e_resource_set r3))) tyS69 (SetAt.here _ _) (by rfl) (by rfl) (by simp) rfl (ot 5 (.ptr 1005 0 [])) (ot 10 (.d (e_resource_set r3))))
 (OpJs.nil)))))))) (by kernel_rfl) (by rfl) (by rfl) ?_
 refine seqQ_n ?_
 refine AWp.ghost (mp [] [(5, (.ptr 1005 0 []))] [(500, some (.know (globF 0 [50, 52, 133]))), (501, some (.know (globF 1 [71, 134, 135]))), (1005, some (.box 69 (.d (e_resource_set r3))))] hB) ?_
 refine sr (c (ov (.ptr 1005 0 [0]) (fp hN Tryz.underlying69 0 tyS66 _ (q 5))) rfl (c (lb hN 69 _ _ tyS66 (ad _) (q 11)) rfl (c (OpJ.val (v' := (i6 (r3.faddrs.length : Int))) (by simp) (OpJ.lenD Tryz.underlying66 (ltN hN rfl) (q 12))) rfl (c (ov (.ptr 1005 1 [1]) (fp hN Tryz.underlying69 1 tyS67 _ (q 5))) rfl (c (lb hN 69 _ _ tyS67 (ad _) (q 14)) rfl (c (OpJ.val (v' := (i6 (r3.fasns.length : Int))) (by simp) (OpJ.lenD Tryz.underlying67 (ltN hN rfl) (q 15))) rfl (c (add6 (ltN hN rfl) (q 13) (q 16)) rfl (c (OpJ.eqlI (ltN hN rfl) (q 17) (Opd.int .i64 (0))) rfl (c (OpJ.assign (ltN hN rfl) (q 18)) rfl cn))))))))) ?_
 refine gh [(4, _)] [(500, some _), (501, some _)] hB rfl rfl (by rfl) ?_
 refine AWp.ret ?_
 obtain rfl := Option.some.inj h
 exact ⟨.inl rfl, _, _, (kp [(4, _)] [(500, some _), (501, some _)] hB rfl rfl (by rfl)), [(bo ((w64 ((r3.faddrs.length : Int) + (r3.fasns.length : Int))) == (0 : Int)))], (Res.tmp (by rfl) (by rfl) Res.nil), rfl, by rfl, by rfl, by rfl⟩

noncomputable def resource_HasPrefix_1 (a0 : api_Range) (a1 : api_Prefix) : Option (Bool) :=
 jn (fun m6 : Bool =>
 some m6) (fun j7 =>
 (addr_Cmp a0.fFrom a1.fAddr).bind fun r8 =>
 (if (decide (r8 ≤ (0 : Int))) = true then
 (prefix_Last a1).bind fun r10 =>
 (addr_Cmp r10 a0.fTo).bind fun r11 =>
 j7 (decide (r11 ≤ (0 : Int)))
 else
 j7 false))
theorem resource_HasPrefix_1_ac (a0 : api_Range) (a1 : api_Prefix) (r : Bool) (h : resource_HasPrefix_1 a0 a1 = some r) : AC Tryz.prog 69 [(.d (e_api_Range a0)), (.ptr 0 0 [])] [(0, (.box 56 (.d (e_api_Prefix a1))))] (.d (.bool r)) [(0, some (.box 56 (.d (e_api_Prefix a1))))] := by
 refine AC.of_code2 Tryz.func69 rfl rfl (Nat.le_of_ble_eq_true (by rfl)) fun B hB hN => ?_
 have L {d : Nat} (h : Nat.blt d Tryz.f69.ntmps = true) : d < B.N := ltN hN h
 delta resource_HasPrefix_1 at h
 refine sr (cg (OpJ.box hB (nm := 1002) (by decide) (by simp) rfl (L rfl) (q 0)) rfl (c (OpJ.assign (L rfl) (Opd.bool false)) rfl cn)) ?_
 refine gh [(1, _), (2, _)] [(0, some _), (1002, some _)] hB rfl rfl (by rfl) ?_
 refine AWp.seq ?_
 refine AWp.cut h (fun m6 : Bool => ([(3, (bo m6))] : EL)) (fun m6 : Bool => ([(0, some (.box 56 (.d (e_api_Prefix a1))))] : OL)) (fun m6 h E' O' hmat => ?_) (fun j7 hjj7 h => ?_)
 ·refine seqQ_n ?_
  refine AWp.ghost hmat ?_
  refine AWp.ret ?_
  obtain rfl := Option.some.inj h
  exact ⟨.inl rfl, _, _, (kp [(3, _)] [(0, some _)] hB rfl rfl (by rfl)), [(bo m6)], (Res.tmp (by rfl) (by rfl) Res.nil), rfl, by rfl, by rfl, by rfl⟩
 ·obtain ⟨r8, hr8, h⟩ := bindS h
  rcases Bool.eq_false_or_eq_true (decide (r8 ≤ (0 : Int))) with hg9 | hg9
  ·replace h := ite_t hg9 h
   obtain ⟨r10, hr10, h⟩ := bindS h
   obtain ⟨r11, hr11, h⟩ := bindS h
   refine dr (c (ov (.ptr 1002 0 [0]) (fp hN Tryz.underlying46 0 tyS42 _ (q 2))) rfl (c (lb hN 46 _ _ tyS42 (ad _) (q 4)) rfl (c (ov (.ptr 0 0 [0]) (fp hN Tryz.underlying56 0 tyS42 _ (q 1))) rfl (c (lb hN 56 _ _ tyS42 (ad _) (q 6)) rfl (cg (cf hB fnOk50 (addr_Cmp_ac a0.fFrom a1.fAddr r8 hr8) (L rfl) (OpdL.cons (q 5) (OpdL.cons (q 7) OpdL.nil))) rfl (c (OpJ.leq (L rfl) (q 8) (Opd.int .i64 (0))) rfl (c (OpJ.val (v' := .d (.bool true)) (by rw [hg9] <;> rfl) (mv hN (q 9))) rfl (c (gd 10 (lb hN 56 _ _ tyS56 (At.here _) (q 1))) rfl (cg (gd 10 (cf hB fnOk53 (prefix_Last_ac a1 r10 hr10) (L rfl) (OpdL.cons (q 11) OpdL.nil))) rfl (c (gd 10 (ov (.ptr 1002 3 [1]) (fp hN Tryz.underlying46 3 tyS42 _ (q 2)))) rfl (c (gd 10 (lb hN 46 _ _ tyS42 (ad _) (q 13))) rfl (cg (gd 10 (cf hB fnOk50 (addr_Cmp_ac r10 a0.fTo r11 hr11) (L rfl) (OpdL.cons (q 12) (OpdL.cons (q 14) OpdL.nil)))) rfl (c (gd 10 (OpJ.leq (L rfl) (q 15) (Opd.int .i64 (0)))) rfl (c (OpJ.pickT (L rfl) (q 10) (q 16)) rfl (c (OpJ.assign (L rfl) (q 17)) rfl cn))))))))))))))) (by kernel_rfl) (by kernel_rfl) ?_
   exact hjj7 _ h _ _ (Mat.trans (mp [] [(3, (bo (decide (r11 ≤ (0 : Int)))))] [(0, some (.box 56 (.d (e_api_Prefix a1))))] hB) (mp [] _ _ hB))
  ·replace h := ite_f hg9 h
   refine dr (c (ov (.ptr 1002 0 [0]) (fp hN Tryz.underlying46 0 tyS42 _ (q 2))) rfl (c (lb hN 46 _ _ tyS42 (ad _) (q 4)) rfl (c (ov (.ptr 0 0 [0]) (fp hN Tryz.underlying56 0 tyS42 _ (q 1))) rfl (c (lb hN 56 _ _ tyS42 (ad _) (q 6)) rfl (cg (cf hB fnOk50 (addr_Cmp_ac a0.fFrom a1.fAddr r8 hr8) (L rfl) (OpdL.cons (q 5) (OpdL.cons (q 7) OpdL.nil))) rfl (c (OpJ.leq (L rfl) (q 8) (Opd.int .i64 (0))) rfl (c (OpJ.val (v' := .d (.bool false)) (by rw [hg9] <;> rfl) (mv hN (q 9))) rfl (cg (sU 10 (L rfl)) rfl (cg (sU 10 (L rfl)) rfl (cg (sU 10 (L rfl)) rfl (cg (sU 10 (L rfl)) rfl (cg (sU 10 (L rfl)) rfl (cg (sU 10 (L rfl)) rfl (c (OpJ.pickF (L rfl) (q 10) (Opd.bool false)) rfl (c (OpJ.assign (L rfl) (q 17)) rfl cn))))))))))))))) (by kernel_rfl) (by kernel_rfl) ?_
   exact hjj7 _ h _ _ (Mat.trans (mp [] [(3, (bo false))] [(0, some (.box 56 (.d (e_api_Prefix a1))))] hB) (mp [] _ _ hB))

noncomputable def slices_IndexFunc_2_L0 (a0 : (List api_Range)) (a1 : api_Prefix) (s1 : Int) : Option (((Int) ⊕ (Unit)) ⊕ (Int)) :=
 (if (decide (s1 < (a0.length : Int))) = true then
 (idx a0 s1).bind fun x13 =>
 (resource_HasPrefix_1 x13 a1).bind fun r14 =>
 (if r14 = true then
 some (.inl (.inl s1))
 else
 some (.inr (w64 (s1 + (1 : Int)))))
 else
 some (.inl (.inr ())))
noncomputable def slices_IndexFunc_2 (a0 : (List api_Range)) (a1 : api_Prefix) : Option (Int) :=
 (loop (slices_IndexFunc_2_L0 a0 a1) (0 : Int)).bind fun x16 => match x16 with
 | (.inl p10) =>
  some p10
 | (.inr _) =>
  some (-1 : Int)
theorem slices_IndexFunc_2_ac (a0 : (List api_Range)) (a1 : api_Prefix) (r : Int) (h : slices_IndexFunc_2 a0 a1 = some r) : AC Tryz.prog 84 [(.d (.list 6 (a0.map e_api_Range))), (.func 69 [(.ptr 0 0 [])])] [(0, (.box 56 (.d (e_api_Prefix a1))))] (.d (.int .i64 r)) [(0, some (.box 56 (.d (e_api_Prefix a1))))] := by
 refine AC.of_code2 Tryz.func84 rfl rfl (Nat.le_of_ble_eq_true (by rfl)) fun B hB hN => ?_
 delta slices_IndexFunc_2 at h
 refine sr (c (OpJ.assign (ltN hN rfl) (Opd.int .i64 (0))) rfl cn) ?_
 refine gh [(0, _), (1, _)] [(0, some _)] hB rfl rfl (by rfl) ?_
 refine AWp.seq ?_
 refine sr (c (mv hN (q 0)) rfl (c (OpJ.val (v' := (i6 (a0.length : Int))) (by simp) (OpJ.lenD Tryz.underlying22 (ltN hN rfl) (q 6))) rfl (c (mv hN (Opd.int .i64 (0))) rfl cn))) ?_
 refine gh [(0, _), (1, _), (7, _), (8, _)] [(0, some _)] hB rfl rfl (by rfl) ?_
 refine AWp.block ?_
 obtain ⟨x16, hx17, h⟩ := bindS h
 refine lg (slices_IndexFunc_2_L0 a0 a1) (fun s1 : Int => ([(0, (qe_api_Range_6 a0)), (1, (.func 69 [(.ptr 0 0 [])])), (7, (i6 (a0.length : Int))), (8, (i6 s1))] : EL)) (fun s1 : Int => ([(0, some (.box 56 (.d (e_api_Prefix a1))))] : OL)) (fun (x : (Int) ⊕ (Unit)) e E' O' => match x with | (.inl p10) => e = .ret ∧ Mat B E' O' ([(4, (i6 p10))] : EL) ([(0, some (.box 56 (.d (e_api_Prefix a1))))] : OL) | (.inr _p) => e = .exit 0 ∧ Mat B E' O' ([] : EL) ([(0, some (.box 56 (.d (e_api_Prefix a1))))] : OL)) hx17 (mp [] _ _ hB) (fun s1 y h => ?_) (fun e E' O' hR => ?_)
 ·unfold slices_IndexFunc_2_L0 at h
  refine sr (c (OpJ.lss (ltN hN rfl) (q 8) (q 7)) rfl cn) ?_
  refine gh [(0, _), (1, _), (7, _), (8, _), (9, _)] [(0, some _)] hB rfl rfl (by rfl) ?_
  refine AWp.seq ?_
  refine AWp.cond rfl (fun hg12 => ?_) (fun hg12 => ?_)
  ·replace h := ite_t hg12 h
   refine AWp.skip ?_
   refine seqQ_n ?_
   refine AWp.seq ?_
   refine AWp.block ?_
   refine sr (c (mv hN (q 8)) rfl (c (OpJ.assign (ltN hN rfl) (q 10)) rfl cn)) ?_
   refine gh [(0, _), (1, _), (5, _), (7, _), (8, _)] [(0, some _)] hB rfl rfl (by rfl) ?_
   refine AWp.seq ?_
   obtain ⟨x13, hx13, h⟩ := bindS h
   obtain ⟨r14, hr14, h⟩ := bindS h
   refine AWp.region (oc (mv hN (ot 1 (.func 69 [(.ptr 0 0 [])])))
    (oc (mv hN (ot 0 (qe_api_Range_6 a0)))
    (oc (mv hN (ot 5 (i6 s1)))
    (oc (OpJ.indexD (el := (e_api_Range x13)) Tryz.underlying22 tyS46 (idx_some hx13).1 (get_map e_api_Range (idx_some hx13).2) (ltN hN rfl) (ot 12 (qe_api_Range_6 a0)) (ot 13 (i6 s1)))
    (oc (OpJ.loadD tyS46 (by rfl) (by rfl) (ltN hN rfl) (ot 14 (.dptr (e_api_Range x13))))
    (oc (OpJ.callVal (args := [(.d (e_api_Range x13))]) (caps := [(.ptr 0 0 [])]) hB fnOk69 [(0, 0)] (resource_HasPrefix_1_ac x13 a1 r14 hr14) (by kernel_rfl) (ltN hN rfl) (by kernel_rfl) (by kernel_rfl) (OpdL.cons (ot 15 (.d (e_api_Range x13))) OpdL.nil))
    (OpJs.nil))))))) (by rfl) (by rfl) ?_
   refine seqQ_n ?_
   refine AWp.ghost (mp [] [(0, (qe_api_Range_6 a0)), (1, (.func 69 [(.ptr 0 0 [])])), (5, (i6 s1)), (7, (i6 (a0.length : Int))), (8, (i6 s1)), (16, (bo r14))] [(0, some (.box 56 (.d (e_api_Prefix a1))))] hB) ?_
   refine AWp.cond rfl (fun hg15 => ?_) (fun hg15 => ?_)
   ·replace h := ite_t hg15 h
    refine sr (c (mv hN (q 5)) rfl (c (OpJ.assign (ltN hN rfl) (q 17)) rfl cn)) ?_
    refine gh [(4, _)] [(0, some _)] hB rfl rfl (by rfl) ?_
    refine AWp.ret ?_
    refine blkQ_r ?_
    refine seqQ_r ?_
    obtain rfl := Option.some.inj h
    exact ⟨(fun hc => by cases hc), rfl, (mp [] _ _ hB)⟩
   ·replace h := ite_f hg15 h
    refine AWp.skip ?_
    refine blkQ_n ?_
    refine seqQ_n ?_
    refine rg (c (add6 (ltN hN rfl) (q 8) (Opd.int .i64 (1))) rfl (c (mv hN (q 18)) rfl cn)) ?_
    obtain rfl := Option.some.inj h
    exact ⟨rfl, (Mat.trans (mp [] [(0, (qe_api_Range_6 a0)), (1, (.func 69 [(.ptr 0 0 [])])), (7, (i6 (a0.length : Int))), (8, (i6 (w64 (s1 + (1 : Int)))))] [(0, some (.box 56 (.d (e_api_Prefix a1))))] hB) (mp [] _ _ hB))⟩
  ·replace h := ite_f hg12 h
   refine AWp.exit ?_
   refine seqQ_e ?_
   obtain rfl := Option.some.inj h
   exact ⟨(fun hc => by cases hc), rfl, (mp [] _ _ hB)⟩
 ·rcases x16 with p10 | _
  ·obtain ⟨rfl, hmat⟩ := hR
   refine blkQ_r ?_
   refine seqQ_r ?_
   obtain rfl := Option.some.inj h
   exact ⟨.inl rfl, _, _, (Mat.trans hmat (mp [] [(4, (i6 p10))] [(0, some (.box 56 (.d (e_api_Prefix a1))))] hB)), [(i6 p10)], (Res.tmp (by rfl) (by rfl) Res.nil), rfl, by rfl, by rfl, by rfl⟩
  ·obtain ⟨rfl, hmat⟩ := hR
   refine blkQ_hit ?_
   refine seqQ_n ?_
   refine AWp.ghost hmat ?_
   refine sr (c (OpJ.assign (ltN hN rfl) (Opd.int .i64 (-1))) rfl cn) ?_
   refine gh [(4, _)] [(0, some _)] hB rfl rfl (by rfl) ?_
   refine AWp.ret ?_
   obtain rfl := Option.some.inj h
   exact ⟨.inl rfl, _, _, (kp [(4, _)] [(0, some _)] hB rfl rfl (by rfl)), [(i6 (-1 : Int))], (Res.tmp (by rfl) (by rfl) Res.nil), rfl, by rfl, by rfl, by rfl⟩

noncomputable def slices_ContainsFunc_2 (a0 : (List api_Range)) (a1 : api_Prefix) : Option (Bool) :=
 (slices_IndexFunc_2 a0 a1).bind fun r1 =>
 some (decide ((0 : Int) ≤ r1))
theorem slices_ContainsFunc_2_ac (a0 : (List api_Range)) (a1 : api_Prefix) (r : Bool) (h : slices_ContainsFunc_2 a0 a1 = some r) : AC Tryz.prog 68 [(.d (.list 6 (a0.map e_api_Range))), (.func 69 [(.ptr 0 0 [])])] [(0, (.box 56 (.d (e_api_Prefix a1))))] (.d (.bool r)) [(0, some (.box 56 (.d (e_api_Prefix a1))))] := by
 refine AC.of_code2 Tryz.func68 rfl rfl (Nat.le_of_ble_eq_true (by rfl)) fun B hB hN => ?_
 delta slices_ContainsFunc_2 at h
 refine sr (c (OpJ.assign (ltN hN rfl) (Opd.bool false)) rfl cn) ?_
 refine gh [(0, _), (1, _)] [(0, some _)] hB rfl rfl (by rfl) ?_
 refine AWp.seq ?_
 obtain ⟨r1, hr1, h⟩ := bindS h
 refine AWp.region (oc (mv hN (ot 0 (qe_api_Range_6 a0)))
 (oc (mv hN (ot 1 (.func 69 [(.ptr 0 0 [])])))
 (oc (OpJ.callFn hB fnOk84 (slices_IndexFunc_2_ac a0 a1 r1 hr1) [(0, 0)] (by kernel_rfl) (ltN hN rfl) (by kernel_rfl) (OpdL.cons (ot 5 (qe_api_Range_6 a0)) (OpdL.cons (ot 6 (.func 69 [(.ptr 0 0 [])])) OpdL.nil)))
 (oc (OpJ.geq (ltN hN rfl) (ot 7 (i6 r1)) (Opd.int .i64 (0)))
 (oc (OpJ.assign (ltN hN rfl) (ot 8 (bo (decide ((0 : Int) ≤ r1)))))
 (OpJs.nil)))))) (by rfl) (by rfl) ?_
 refine seqQ_n ?_
 refine AWp.ghost (mp [] [(4, (bo (decide ((0 : Int) ≤ r1))))] [(0, some (.box 56 (.d (e_api_Prefix a1))))] hB) ?_
 refine AWp.ret ?_
 obtain rfl := Option.some.inj h
 exact ⟨.inl rfl, _, _, (kp [(4, _)] [(0, some _)] hB rfl rfl (by rfl)), [(bo (decide ((0 : Int) ≤ r1)))], (Res.tmp (by rfl) (by rfl) Res.nil), rfl, by rfl, by rfl, by rfl⟩

noncomputable def resource_HasPrefix (a0 : api_Resources) (a1 : api_Prefix) : Option (Bool) :=
 (slices_ContainsFunc_2 a0.fAddrs a1).bind fun r1 =>
 some r1
theorem resource_HasPrefix_ac (a0 : api_Resources) (a1 : api_Prefix) (r : Bool) (h : resource_HasPrefix a0 a1 = some r) : AC Tryz.prog 48 [(.d (e_api_Resources a0)), (.d (e_api_Prefix a1))] [] (.d (.bool r)) [] := by
 refine AC.of_code2 Tryz.func48 rfl rfl (Nat.le_of_ble_eq_true (by rfl)) fun B hB hN => ?_
 delta resource_HasPrefix at h
 refine sr (cg (OpJ.box hB (nm := 1002) (by decide) (by simp) rfl (ltN hN rfl) (q 0)) rfl (cg (OpJ.box hB (nm := 1003) (by decide) (by simp) rfl (ltN hN rfl) (q 1)) rfl (c (OpJ.assign (ltN hN rfl) (Opd.bool false)) rfl cn))) ?_
 refine gh [(2, _), (3, _)] [(1002, some _), (1003, some _)] hB rfl rfl (by rfl) ?_
 refine AWp.seq ?_
 obtain ⟨r1, hr1, h⟩ := bindS h
 refine AWp.region (oc (ov (.ptr 1002 0 [0]) (fp hN Tryz.underlying25 0 tyS22 (.box 25 (.d (e_api_Resources a0))) (ot 2 (.ptr 1002 0 []))))
 (oc (lb hN 25 (.d (e_api_Resources a0)) (qe_api_Range_6 a0.fAddrs) tyS22 (ad (.list 6 (a0.fAddrs.map e_api_Range))) (ot 5 (.ptr 1002 0 [0])))
 (oc (OpJ.makeF (OpdL.cons (ot 3 (.ptr 1003 0 [])) OpdL.nil) rfl rfl (ltN hN rfl))
 (oc (OpJ.callFn hB fnOk68 (slices_ContainsFunc_2_ac a0.fAddrs a1 r1 hr1) [(0, 1003)] (by kernel_rfl) (ltN hN rfl) (by kernel_rfl) (OpdL.cons (ot 6 (qe_api_Range_6 a0.fAddrs)) (OpdL.cons (ot 7 (.func 69 [(.ptr 1003 0 [])])) OpdL.nil)))
 (oc (OpJ.assign (ltN hN rfl) (ot 8 (bo r1)))
 (OpJs.nil)))))) (by rfl) (by rfl) ?_
 refine seqQ_n ?_
 refine AWp.ghost (mp [] [(4, (bo r1))] [] hB) ?_
 refine AWp.ret ?_
 obtain rfl := Option.some.inj h
 exact ⟨.inl rfl, _, _, (kp [(4, _)] [] hB rfl rfl (by rfl)), [(bo r1)], (Res.tmp (by rfl) (by rfl) Res.nil), rfl, by rfl, by rfl, by rfl⟩

noncomputable def exchangepointlaw21_in (a0 : api_Resources) (a1 : api_Addr) : Option (Bool) :=
 jn (fun m2 : Int =>
 (resource_HasPrefix a0 (api_Prefix.mk a1 m2)).bind fun r4 =>
 some r4) (fun j3 =>
 (if a1.fV6 = true then
 j3 (128 : Int)
 else
 j3 (32 : Int)))
theorem exchangepointlaw21_in_ac (a0 : api_Resources) (a1 : api_Addr) (r : Bool) (h : exchangepointlaw21_in a0 a1 = some r) : AC Tryz.prog 22 [(.d (e_api_Resources a0)), (.d (e_api_Addr a1))] [] (.d (.bool r)) [] := by
 refine AC.of_code2 Tryz.func22 rfl rfl (Nat.le_of_ble_eq_true (by rfl)) fun B hB hN => ?_
 delta exchangepointlaw21_in at h
 refine sr (cg (OpJ.box hB (nm := 1002) (by decide) (by simp) rfl (ltN hN rfl) (q 0)) rfl (cg (OpJ.box hB (nm := 1003) (by decide) (by simp) rfl (ltN hN rfl) (q 1)) rfl (c (OpJ.assign (ltN hN rfl) (Opd.bool false)) rfl cn))) ?_
 refine gh [(2, _), (3, _)] [(1002, some _), (1003, some _)] hB rfl rfl (by rfl) ?_
 refine sr (c (OpJ.assign (ltN hN rfl) (Opd.int .i64 (32))) rfl cn) ?_
 refine gh [(2, _), (3, _), (5, _)] [(1002, some _), (1003, some _)] hB rfl rfl (by rfl) ?_
 refine AWp.seq ?_
 refine sr (c (ov (.ptr 1003 0 [0]) (fp hN Tryz.underlying42 0 tyS4 _ (q 3))) rfl (c (lb hN 42 _ _ tyS4 (ad _) (q 6)) rfl cn)) ?_
 refine gh [(2, _), (3, _), (5, _), (7, _)] [(1002, some _), (1003, some _)] hB rfl rfl (by rfl) ?_
 refine AWp.cut h (fun m2 : Int => ([(2, (.ptr 1002 0 [])), (3, (.ptr 1003 0 [])), (5, (i6 m2))] : EL)) (fun m2 : Int => ([(1002, some (.box 25 (.d (e_api_Resources a0)))), (1003, some (.box 42 (.d (e_api_Addr a1))))] : OL)) (fun m2 h E' O' hmat => ?_) (fun j3 hjj3 h => ?_)
 ·refine seqQ_n ?_
  refine AWp.ghost hmat ?_
  obtain ⟨r4, hr4, h⟩ := bindS h
  refine sr (c (lb hN 25 _ _ tyS25 (At.here _) (q 2)) rfl (c (lb hN 42 _ _ tyS42 (At.here _) (q 3)) rfl (c (mv hN (q 5)) rfl (c (OpJ.coe (v := (.st [(.d (e_api_Addr a1)), (i6 m2)])) (y := (.st [(e_api_Addr a1), (.int .i64 m2)])) (Co.st (CoL.cons (Co.d _) (CoL.cons (Co.d _) CoL.nil))) rfl (OpJ.build (places := [(0, 3), (3, 1)]) ⟨Tryz.underlying56, fun w => by kernel_rfl⟩ tyZS56 (Opds.cons (q 9) (Opds.cons (q 10) Opds.nil)) (by kernel_rfl) (r := (.st [(.d (e_api_Addr a1)), (i6 m2)])) (by rfl) (ltN hN rfl))) rfl (cg (OpJ.callFn hB fnOk48 (resource_HasPrefix_ac a0 (api_Prefix.mk a1 m2) r4 hr4) [] (by kernel_rfl) (ltN hN rfl) (by kernel_rfl) (OpdL.cons (q 8) (OpdL.cons (q 11) OpdL.nil))) rfl (c (OpJ.assign (ltN hN rfl) (q 12)) rfl cn)))))) ?_
  refine gh [(4, _)] [] hB rfl rfl (by rfl) ?_
  refine AWp.ret ?_
  obtain rfl := Option.some.inj h
  exact ⟨.inl rfl, _, _, (kp [(4, _)] [] hB rfl rfl (by rfl)), [(bo r4)], (Res.tmp (by rfl) (by rfl) Res.nil), rfl, by rfl, by rfl, by rfl⟩
 ·refine AWp.cond rfl (fun hg5 => ?_) (fun hg5 => ?_)
  ·replace h := ite_t hg5 h
   refine rg (c (OpJ.assign (ltN hN rfl) (Opd.int .i64 (128))) rfl cn) ?_
   exact hjj3 _ h _ _ (Mat.trans (mp [] [(2, (.ptr 1002 0 [])), (3, (.ptr 1003 0 [])), (5, (i6 (128 : Int)))] [(1002, some (.box 25 (.d (e_api_Resources a0)))), (1003, some (.box 42 (.d (e_api_Addr a1))))] hB) (mp [] _ _ hB))
  ·replace h := ite_f hg5 h
   refine AWp.skip ?_
   exact hjj3 _ h _ _ (mp [] _ _ hB)

noncomputable def resource_HasASN_1 (a0 : api_Span) (a1 : Int) : Option (Bool) :=
 some ((decide (a0.fFrom ≤ a1)) && (decide (a1 ≤ a0.fTo)))
theorem resource_HasASN_1_ac (a0 : api_Span) (a1 : Int) (r : Bool) (h : resource_HasASN_1 a0 a1 = some r) : AC Tryz.prog 49 [(.d (e_api_Span a0)), (.ptr 0 0 [])] [(0, (.box 3 (.d (.int .i64 a1))))] (.d (.bool r)) [(0, some (.box 3 (.d (.int .i64 a1))))] := by
 refine AC.of_code2 Tryz.func49 rfl rfl (Nat.le_of_ble_eq_true (by rfl)) fun B hB hN => ?_
 delta resource_HasASN_1 at h
 refine sr (cg (OpJ.box hB (nm := 1002) (by decide) (by simp) rfl (ltN hN rfl) (q 0)) rfl (c (OpJ.assign (ltN hN rfl) (Opd.bool false)) rfl cn)) ?_
 refine gh [(1, _), (2, _)] [(0, some _), (1002, some _)] hB rfl rfl (by rfl) ?_
 refine sr (c (ov (.ptr 1002 0 [0]) (fp hN Tryz.underlying62 0 tyS3 _ (q 2))) rfl (c (lb hN 62 _ _ tyS3 (ad _) (q 4)) rfl (c (lb hN 3 _ _ tyS3 (At.here _) (q 1)) rfl (c (OpJ.leq (ltN hN rfl) (q 5) (q 6)) rfl (c (mv hN (q 7)) rfl (c (oq hN 8 (lb hN 3 _ _ tyS3 (At.here _) (q 1)) (OptL.keep (by rfl) OptL.nil) (GuardV.plain _)) rfl (c (oq hN 8 (ov (.ptr 1002 1 [1]) (fp hN Tryz.underlying62 1 tyS3 _ (q 2))) (OptL.keep (by rfl) OptL.nil) (GuardV.plain _)) rfl (c (oq hN 8 (lb hN 62 _ _ tyS3 (ad _) (q 10)) (OptL.opt OptL.nil) (GuardV.plain _)) rfl (c (oq hN 8 (OpJ.leq (ltN hN rfl) (q 9) (q 11)) (OptL.opt (OptL.opt OptL.nil)) (GuardV.plain _)) rfl (c (OpJ.pickAnd rfl (ltN hN rfl) (q 8) (q 12)) rfl (c (OpJ.assign (ltN hN rfl) (q 13)) rfl cn))))))))))) ?_
 refine gh [(3, _)] [(0, some _)] hB rfl rfl (by rfl) ?_
 refine AWp.ret ?_
 obtain rfl := Option.some.inj h
 exact ⟨.inl rfl, _, _, (kp [(3, _)] [(0, some _)] hB rfl rfl (by rfl)), [(bo ((decide (a0.fFrom ≤ a1)) && (decide (a1 ≤ a0.fTo))))], (Res.tmp (by rfl) (by rfl) Res.nil), rfl, by rfl, by rfl, by rfl⟩

noncomputable def slices_IndexFunc_3_L0 (a0 : (List api_Span)) (a1 : Int) (s1 : Int) : Option (((Int) ⊕ (Unit)) ⊕ (Int)) :=
 (if (decide (s1 < (a0.length : Int))) = true then
 (idx a0 s1).bind fun x13 =>
 (resource_HasASN_1 x13 a1).bind fun r14 =>
 (if r14 = true then
 some (.inl (.inl s1))
 else
 some (.inr (w64 (s1 + (1 : Int)))))
 else
 some (.inl (.inr ())))
noncomputable def slices_IndexFunc_3 (a0 : (List api_Span)) (a1 : Int) : Option (Int) :=
 (loop (slices_IndexFunc_3_L0 a0 a1) (0 : Int)).bind fun x16 => match x16 with
 | (.inl p10) =>
  some p10
 | (.inr _) =>
  some (-1 : Int)
theorem slices_IndexFunc_3_ac (a0 : (List api_Span)) (a1 : Int) (r : Int) (h : slices_IndexFunc_3 a0 a1 = some r) : AC Tryz.prog 67 [(.d (.list 2 (a0.map e_api_Span))), (.func 49 [(.ptr 0 0 [])])] [(0, (.box 3 (.d (.int .i64 a1))))] (.d (.int .i64 r)) [(0, some (.box 3 (.d (.int .i64 a1))))] := by
 refine AC.of_code2 Tryz.func67 rfl rfl (Nat.le_of_ble_eq_true (by rfl)) fun B hB hN => ?_
 delta slices_IndexFunc_3 at h
 refine sr (c (OpJ.assign (ltN hN rfl) (Opd.int .i64 (0))) rfl cn) ?_
 refine gh [(0, _), (1, _)] [(0, some _)] hB rfl rfl (by rfl) ?_
 refine AWp.seq ?_
 refine sr (c (mv hN (q 0)) rfl (c (OpJ.val (v' := (i6 (a0.length : Int))) (by simp) (OpJ.lenD Tryz.underlying23 (ltN hN rfl) (q 6))) rfl (c (mv hN (Opd.int .i64 (0))) rfl cn))) ?_
 refine gh [(0, _), (1, _), (7, _), (8, _)] [(0, some _)] hB rfl rfl (by rfl) ?_
 refine AWp.block ?_
 obtain ⟨x16, hx17, h⟩ := bindS h
 refine lg (slices_IndexFunc_3_L0 a0 a1) (fun s1 : Int => ([(0, (qe_api_Span_2 a0)), (1, (.func 49 [(.ptr 0 0 [])])), (7, (i6 (a0.length : Int))), (8, (i6 s1))] : EL)) (fun s1 : Int => ([(0, some (.box 3 (i6 a1)))] : OL)) (fun (x : (Int) ⊕ (Unit)) e E' O' => match x with | (.inl p10) => e = .ret ∧ Mat B E' O' ([(4, (i6 p10))] : EL) ([(0, some (.box 3 (i6 a1)))] : OL) | (.inr _p) => e = .exit 0 ∧ Mat B E' O' ([] : EL) ([(0, some (.box 3 (i6 a1)))] : OL)) hx17 (mp [] _ _ hB) (fun s1 y h => ?_) (fun e E' O' hR => ?_)
 ·unfold slices_IndexFunc_3_L0 at h
  refine sr (c (OpJ.lss (ltN hN rfl) (q 8) (q 7)) rfl cn) ?_
  refine gh [(0, _), (1, _), (7, _), (8, _), (9, _)] [(0, some _)] hB rfl rfl (by rfl) ?_
  refine AWp.seq ?_
  refine AWp.cond rfl (fun hg12 => ?_) (fun hg12 => ?_)
  ·replace h := ite_t hg12 h
   refine AWp.skip ?_
   refine seqQ_n ?_
   refine AWp.seq ?_
   refine AWp.block ?_
   refine sr (c (mv hN (q 8)) rfl (c (OpJ.assign (ltN hN rfl) (q 10)) rfl cn)) ?_
   refine gh [(0, _), (1, _), (5, _), (7, _), (8, _)] [(0, some _)] hB rfl rfl (by rfl) ?_
   refine AWp.seq ?_
   obtain ⟨x13, hx13, h⟩ := bindS h
   obtain ⟨r14, hr14, h⟩ := bindS h
   refine AWp.region (oc (mv hN (ot 1 (.func 49 [(.ptr 0 0 [])])))
    (oc (mv hN (ot 0 (qe_api_Span_2 a0)))
    (oc (mv hN (ot 5 (i6 s1)))
    (oc (OpJ.indexD (el := (e_api_Span x13)) Tryz.underlying23 tyS62 (idx_some hx13).1 (get_map e_api_Span (idx_some hx13).2) (ltN hN rfl) (ot 12 (qe_api_Span_2 a0)) (ot 13 (i6 s1)))
    (oc (OpJ.loadD tyS62 (by rfl) (by rfl) (ltN hN rfl) (ot 14 (.dptr (e_api_Span x13))))
    (oc (OpJ.callVal (args := [(.d (e_api_Span x13))]) (caps := [(.ptr 0 0 [])]) hB fnOk49 [(0, 0)] (resource_HasASN_1_ac x13 a1 r14 hr14) (by kernel_rfl) (ltN hN rfl) (by kernel_rfl) (by kernel_rfl) (OpdL.cons (ot 15 (.d (e_api_Span x13))) OpdL.nil))
    (OpJs.nil))))))) (by rfl) (by rfl) ?_
   refine seqQ_n ?_
   refine AWp.ghost (mp [] [(0, (qe_api_Span_2 a0)), (1, (.func 49 [(.ptr 0 0 [])])), (5, (i6 s1)), (7, (i6 (a0.length : Int))), (8, (i6 s1)), (16, (bo r14))] [(0, some (.box 3 (i6 a1)))] hB) ?_
   refine AWp.cond rfl (fun hg15 => ?_) (fun hg15 => ?_)
   ·replace h := ite_t hg15 h
    refine sr (c (mv hN (q 5)) rfl (c (OpJ.assign (ltN hN rfl) (q 17)) rfl cn)) ?_
    refine gh [(4, _)] [(0, some _)] hB rfl rfl (by rfl) ?_
    refine AWp.ret ?_
    refine blkQ_r ?_
    refine seqQ_r ?_
    obtain rfl := Option.some.inj h
    exact ⟨(fun hc => by cases hc), rfl, (mp [] _ _ hB)⟩
   ·replace h := ite_f hg15 h
    refine AWp.skip ?_
    refine blkQ_n ?_
    refine seqQ_n ?_
    refine rg (c (add6 (ltN hN rfl) (q 8) (Opd.int .i64 (1))) rfl (c (mv hN (q 18)) rfl cn)) ?_
    obtain rfl := Option.some.inj h
    exact ⟨rfl, (Mat.trans (mp [] [(0, (qe_api_Span_2 a0)), (1, (.func 49 [(.ptr 0 0 [])])), (7, (i6 (a0.length : Int))), (8, (i6 (w64 (s1 + (1 : Int)))))] [(0, some (.box 3 (i6 a1)))] hB) (mp [] _ _ hB))⟩
  ·replace h := ite_f hg12 h
   refine AWp.exit ?_
   refine seqQ_e ?_
   obtain rfl := Option.some.inj h
   exact ⟨(fun hc => by cases hc), rfl, (mp [] _ _ hB)⟩
 ·rcases x16 with p10 | _
  ·obtain ⟨rfl, hmat⟩ := hR
   refine blkQ_r ?_
   refine seqQ_r ?_
   obtain rfl := Option.some.inj h
   exact ⟨.inl rfl, _, _, (Mat.trans hmat (mp [] [(4, (i6 p10))] [(0, some (.box 3 (i6 a1)))] hB)), [(i6 p10)], (Res.tmp (by rfl) (by rfl) Res.nil), rfl, by rfl, by rfl, by rfl⟩
  ·obtain ⟨rfl, hmat⟩ := hR
   refine blkQ_hit ?_
   refine seqQ_n ?_
   refine AWp.ghost hmat ?_
   refine sr (c (OpJ.assign (ltN hN rfl) (Opd.int .i64 (-1))) rfl cn) ?_
   refine gh [(4, _)] [(0, some _)] hB rfl rfl (by rfl) ?_
   refine AWp.ret ?_
   obtain rfl := Option.some.inj h
   exact ⟨.inl rfl, _, _, (kp [(4, _)] [(0, some _)] hB rfl rfl (by rfl)), [(i6 (-1 : Int))], (Res.tmp (by rfl) (by rfl) Res.nil), rfl, by rfl, by rfl, by rfl⟩

noncomputable def slices_ContainsFunc_3 (a0 : (List api_Span)) (a1 : Int) : Option (Bool) :=
 (slices_IndexFunc_3 a0 a1).bind fun r1 =>
 some (decide ((0 : Int) ≤ r1))
theorem slices_ContainsFunc_3_ac (a0 : (List api_Span)) (a1 : Int) (r : Bool) (h : slices_ContainsFunc_3 a0 a1 = some r) : AC Tryz.prog 43 [(.d (.list 2 (a0.map e_api_Span))), (.func 49 [(.ptr 0 0 [])])] [(0, (.box 3 (.d (.int .i64 a1))))] (.d (.bool r)) [(0, some (.box 3 (.d (.int .i64 a1))))] := by
 refine AC.of_code2 Tryz.func43 rfl rfl (Nat.le_of_ble_eq_true (by rfl)) fun B hB hN => ?_
 delta slices_ContainsFunc_3 at h
 refine sr (c (OpJ.assign (ltN hN rfl) (Opd.bool false)) rfl cn) ?_
 refine gh [(0, _), (1, _)] [(0, some _)] hB rfl rfl (by rfl) ?_
 refine AWp.seq ?_
 obtain ⟨r1, hr1, h⟩ := bindS h
 refine AWp.region (oc (mv hN (ot 0 (qe_api_Span_2 a0)))
 (oc (mv hN (ot 1 (.func 49 [(.ptr 0 0 [])])))
 (oc (OpJ.callFn hB fnOk67 (slices_IndexFunc_3_ac a0 a1 r1 hr1) [(0, 0)] (by kernel_rfl) (ltN hN rfl) (by kernel_rfl) (OpdL.cons (ot 5 (qe_api_Span_2 a0)) (OpdL.cons (ot 6 (.func 49 [(.ptr 0 0 [])])) OpdL.nil)))
 (oc (OpJ.geq (ltN hN rfl) (ot 7 (i6 r1)) (Opd.int .i64 (0)))
 (oc (OpJ.assign (ltN hN rfl) (ot 8 (bo (decide ((0 : Int) ≤ r1)))))
 (OpJs.nil)))))) (by rfl) (by rfl) ?_
 refine seqQ_n ?_
 refine AWp.ghost (mp [] [(4, (bo (decide ((0 : Int) ≤ r1))))] [(0, some (.box 3 (i6 a1)))] hB) ?_
 refine AWp.ret ?_
 obtain rfl := Option.some.inj h
 exact ⟨.inl rfl, _, _, (kp [(4, _)] [(0, some _)] hB rfl rfl (by rfl)), [(bo (decide ((0 : Int) ≤ r1)))], (Res.tmp (by rfl) (by rfl) Res.nil), rfl, by rfl, by rfl, by rfl⟩

noncomputable def resource_HasASN (a0 : api_Resources) (a1 : Int) : Option (Bool) :=
 (slices_ContainsFunc_3 a0.fASNs a1).bind fun r1 =>
 some r1
theorem resource_HasASN_ac (a0 : api_Resources) (a1 : Int) (r : Bool) (h : resource_HasASN a0 a1 = some r) : AC Tryz.prog 24 [(.d (e_api_Resources a0)), (.d (.int .i64 a1))] [] (.d (.bool r)) [] := by
 refine AC.of_code2 Tryz.func24 rfl rfl (Nat.le_of_ble_eq_true (by rfl)) fun B hB hN => ?_
 delta resource_HasASN at h
 refine sr (cg (OpJ.box hB (nm := 1002) (by decide) (by simp) rfl (ltN hN rfl) (q 0)) rfl (cg (OpJ.box hB (nm := 1003) (by decide) (by simp) rfl (ltN hN rfl) (q 1)) rfl (c (OpJ.assign (ltN hN rfl) (Opd.bool false)) rfl cn))) ?_
 refine gh [(2, _), (3, _)] [(1002, some _), (1003, some _)] hB rfl rfl (by rfl) ?_
 refine AWp.seq ?_
 obtain ⟨r1, hr1, h⟩ := bindS h
 refine AWp.region (oc (ov (.ptr 1002 1 [1]) (fp hN Tryz.underlying25 1 tyS23 (.box 25 (.d (e_api_Resources a0))) (ot 2 (.ptr 1002 0 []))))
 (oc (lb hN 25 (.d (e_api_Resources a0)) (qe_api_Span_2 a0.fASNs) tyS23 (ad (.list 2 (a0.fASNs.map e_api_Span))) (ot 5 (.ptr 1002 1 [1])))
 (oc (OpJ.makeF (OpdL.cons (ot 3 (.ptr 1003 0 [])) OpdL.nil) rfl rfl (ltN hN rfl))
 (oc (OpJ.callFn hB fnOk43 (slices_ContainsFunc_3_ac a0.fASNs a1 r1 hr1) [(0, 1003)] (by kernel_rfl) (ltN hN rfl) (by kernel_rfl) (OpdL.cons (ot 6 (qe_api_Span_2 a0.fASNs)) (OpdL.cons (ot 7 (.func 49 [(.ptr 1003 0 [])])) OpdL.nil)))
 (oc (OpJ.assign (ltN hN rfl) (ot 8 (bo r1)))
 (OpJs.nil)))))) (by rfl) (by rfl) ?_
 refine seqQ_n ?_
 refine AWp.ghost (mp [] [(4, (bo r1))] [] hB) ?_
 refine AWp.ret ?_
 obtain rfl := Option.some.inj h
 exact ⟨.inl rfl, _, _, (kp [(4, _)] [] hB rfl rfl (by rfl)), [(bo r1)], (Res.tmp (by rfl) (by rfl) Res.nil), rfl, by rfl, by rfl, by rfl⟩

noncomputable def exchangepointlaw21_ResourceSets_L0 (r2 : api_Resources × exchangepointmake_Deck) (r4 : api_Resources × exchangepointmake_Deck) (s23 : Int × (List api_Addr)) : Option ((((List api_Addr))) ⊕ (Int × (List api_Addr))) :=
 (if (decide (s23.1 < ((r2.1.fAddrs ++ r4.1.fAddrs).length : Int))) = true then
 (idx (r2.1.fAddrs ++ r4.1.fAddrs) s23.1).bind fun x48 =>
 (idx (r2.1.fAddrs ++ r4.1.fAddrs) s23.1).bind fun x49 =>
 (exchangepointref01_Next x49.fTo).bind fun r50 =>
 chk (decide ((s23.2 ++ ([x49.fFrom, x49.fTo] : List api_Addr)).length ≤ LIM)) <|
 jn (fun m54 : (List api_Addr) =>
 some (.inr ((w64 (s23.1 + (1 : Int))), m54))) (fun j55 =>
 (if r50.2 = true then
 chk (decide (((s23.2 ++ ([x49.fFrom, x49.fTo] : List api_Addr)) ++ ([r50.1] : List api_Addr)).length ≤ LIM)) <|
 j55 ((s23.2 ++ ([x49.fFrom, x49.fTo] : List api_Addr)) ++ ([r50.1] : List api_Addr))
 else
 j55 (s23.2 ++ ([x49.fFrom, x49.fTo] : List api_Addr))))
 else
 some (.inl s23.2))
noncomputable def exchangepointlaw21_ResourceSets_L1 (r2 : api_Resources × exchangepointmake_Deck) (r4 : api_Resources × exchangepointmake_Deck) (r6 : api_Resources × Int) (r7 : api_Resources × Int) (r8 : api_Resources × Int) (p46 : (List api_Addr)) (s60 : Int) : Option (((Unit) ⊕ (Unit)) ⊕ (Int)) :=
 (if (decide (s60 < (p46.length : Int))) = true then
 (idx p46 s60).bind fun x102 =>
 (idx p46 s60).bind fun x103 =>
 (exchangepointlaw21_in r2.1 x103).bind fun r104 =>
 (exchangepointlaw21_in r4.1 x103).bind fun r105 =>
 jn (fun m112 : Bool =>
 (if m112 = true then
 some (.inl (.inl ()))
 else
 some (.inr (w64 (s60 + (1 : Int)))))) (fun j113 =>
 (exchangepointlaw21_in r6.1 x103).bind fun r115 =>
 (if (r115 != (r104 || r105)) = true then
 j113 true
 else
 (exchangepointlaw21_in r7.1 x103).bind fun r117 =>
 (if (r117 != (r104 && r105)) = true then
 j113 true
 else
 (exchangepointlaw21_in r8.1 x103).bind fun r119 =>
 j113 (r119 != (r104 && (!r105))))))
 else
 some (.inl (.inr ())))
noncomputable def exchangepointlaw21_ResourceSets_L2 (r2 : api_Resources × exchangepointmake_Deck) (r4 : api_Resources × exchangepointmake_Deck) (r6 : api_Resources × Int) (r7 : api_Resources × Int) (r8 : api_Resources × Int) (r122 : Int) (r123 : Int) (s124 : Int) : Option (((Unit) ⊕ (Unit)) ⊕ (Int)) :=
 (if (decide (s124 < (([r122, (w64 ((4294967295 : Int) - r123)), (0 : Int), (4294967295 : Int)] : List Int).length : Int))) = true then
 (idx ([r122, (w64 ((4294967295 : Int) - r123)), (0 : Int), (4294967295 : Int)] : List Int) s124).bind fun x164 =>
 (resource_HasASN r2.1 x164).bind fun r165 =>
 (resource_HasASN r4.1 x164).bind fun r166 =>
 jn (fun m173 : Bool =>
 (if m173 = true then
 some (.inl (.inl ()))
 else
 some (.inr (w64 (s124 + (1 : Int)))))) (fun j174 =>
 (resource_HasASN r6.1 x164).bind fun r176 =>
 (if (r176 != (r165 || r166)) = true then
 j174 true
 else
 (resource_HasASN r7.1 x164).bind fun r178 =>
 (if (r178 != (r165 && r166)) = true then
 j174 true
 else
 (resource_HasASN r8.1 x164).bind fun r180 =>
 j174 (r180 != (r165 && (!r166))))))
 else
 some (.inl (.inr ())))
noncomputable def exchangepointlaw21_ResourceSets (a0 : (List Int)) (a1 : (List Int)) (a2 : (List Int)) (a3 : Int) : Option (Bool) :=
 (exchangepointmake_New a0).bind fun r1 =>
 (exchangepointmake_Deck_Resources r1).bind fun r2 =>
 (exchangepointmake_New a1).bind fun r3 =>
 (exchangepointmake_Deck_Resources r3).bind fun r4 =>
 (exchangepointmake_New a2).bind fun r5 =>
 (resource_Union r2.1 r4.1).bind fun r6 =>
 (resource_Intersect r2.1 r4.1).bind fun r7 =>
 (resource_Minus r2.1 r4.1).bind fun r8 =>
 jn (fun m15 : Bool =>
 (if m15 = true then
 some false
 else
 (exchangepointmake_Deck_Addr r5).bind fun r18 =>
 (exchangepointmake_Deck_Addr r18.2).bind fun r19 =>
 (exchangepointmake_Deck_Addr r19.2).bind fun r20 =>
 chk (decide (r2.1.fAddrs.length ≤ LIM)) <|
 chk (decide ((r2.1.fAddrs ++ r4.1.fAddrs).length ≤ LIM)) <|
 (loop (exchangepointlaw21_ResourceSets_L0 r2 r4) ((0 : Int), ([r18.1, r19.1, r20.1] : List api_Addr))).bind fun p46 =>
 (loop (exchangepointlaw21_ResourceSets_L1 r2 r4 r6 r7 r8 p46) (0 : Int)).bind fun x120 => match x120 with
 | (.inl _) =>
  some false
 | (.inr _) =>
  (exchangepointmake_Mod a3 (30 : Int)).bind fun r122 =>
  (exchangepointmake_Mod a3 (12 : Int)).bind fun r123 =>
  (loop (exchangepointlaw21_ResourceSets_L2 r2 r4 r6 r7 r8 r122 r123) (0 : Int)).bind fun x181 => match x181 with
  | (.inl _) =>
   some false
  | (.inr _) =>
   (resource_Union r7.1 r8.1).bind fun r183 =>
   jn (fun m195 : Bool =>
   some m195) (fun j196 =>
   (if (r183.2 == (0 : Int)) = true then
   (exchangepointref21_Same r183.1 r2.1).bind fun r198 =>
   (if r198 = true then
   (resource_Covers r6.1 r2.1).bind fun r200 =>
   (if r200 = true then
   (resource_Covers r2.1 r7.1).bind fun r202 =>
   (if r202 = true then
   (resource_Covers r2.1 r4.1).bind fun r204 =>
   (exchangepointref21_Same r6.1 r2.1).bind fun r205 =>
   (if (r204 == r205) = true then
   (exchangepointlaw21_awake).bind fun r207 =>
   j196 r207
   else
   j196 false)
   else
   j196 false)
   else
   j196 false)
   else
   j196 false)
   else
   j196 false)))) (fun j16 =>
 (if (((r6.2 != (0 : Int)) || (r7.2 != (0 : Int))) || (r8.2 != (0 : Int))) = true then
 j16 true
 else
 (resource_Valid r6.1).bind fun r209 =>
 (if (!r209) = true then
 j16 true
 else
 (resource_Valid r7.1).bind fun r211 =>
 (if (!r211) = true then
 j16 true
 else
 (resource_Valid r8.1).bind fun r213 =>
 j16 (!r213)))))
theorem exchangepointlaw21_ResourceSets_ac (a0 : (List Int)) (a1 : (List Int)) (a2 : (List Int)) (a3 : Int) (r : Bool) (h : exchangepointlaw21_ResourceSets a0 a1 a2 a3 = some r) : AC Tryz.prog 4 [(.d (.list 1 (a0.map (eI .i64)))), (.d (.list 1 (a1.map (eI .i64)))), (.d (.list 1 (a2.map (eI .i64)))), (.d (.int .i64 a3))] [(500, (.know (globF 0 [50, 52, 133]))), (501, (.know (globF 1 [71, 134, 135])))] (.d (.bool r)) [(500, some (.know (globF 0 [50, 52, 133]))), (501, some (.know (globF 1 [71, 134, 135])))] := by
 refine AC.of_code2 Tryz.func4 rfl rfl (Nat.le_of_ble_eq_true (by rfl)) fun B hB hN => ?_
 have L {d : Nat} (h : Nat.blt d Tryz.f4.ntmps = true) : d < B.N := ltN hN h
 delta exchangepointlaw21_ResourceSets at h
 refine sr (c (OpJ.assign (L rfl) (Opd.bool false)) rfl cn) ?_
 refine gh [(0, _), (1, _), (2, _), (3, _)] [(500, some _), (501, some _)] hB rfl rfl (by rfl) ?_
 refine AWp.seq ?_
 obtain ⟨r1, hr1, h⟩ := bindS h
 obtain ⟨r2, hr2, h⟩ := bindS h
 obtain ⟨r3, hr3, h⟩ := bindS h
 obtain ⟨r4, hr4, h⟩ := bindS h
 refine AWp.region (oc (mv hN (ot 0 (qI_1 a0)))
 (oc (OpJ.callFn hB fnOk7 (exchangepointmake_New_ac a0 r1 hr1) [(1005, 100000)] (by kernel_rfl) (L rfl) (by kernel_rfl) (OpdL.cons (ot 33 (qI_1 a0)) OpdL.nil))
 (oc (OpJ.callFn hB fnOk8 (exchangepointmake_Deck_Resources_ac r1 r2 hr2) [(0, 100000)] (by kernel_rfl) (L rfl) (by kernel_rfl) (OpdL.cons (ot 34 (.ptr 100000 0 [])) OpdL.nil))
 (oc (mv hN (ot 1 (qI_1 a1)))
 (oc (OpJ.callFn hB fnOk7 (exchangepointmake_New_ac a1 r3 hr3) [(1005, 100200)] (by kernel_rfl) (L rfl) (by kernel_rfl) (OpdL.cons (ot 36 (qI_1 a1)) OpdL.nil))
 (oc (OpJ.callFn hB fnOk8 (exchangepointmake_Deck_Resources_ac r3 r4 hr4) [(0, 100200)] (by kernel_rfl) (L rfl) (by kernel_rfl) (OpdL.cons (ot 37 (.ptr 100200 0 [])) OpdL.nil))
 (oc (OpJ.alloc hB tyZ25 (nm := 1009) (by decide) (L rfl))
 (oc (OpJ.alloc hB tyZ25 (nm := 1010) (by decide) (L rfl))
 (oc (OpJ.storeB (bt := 25) (c := (.st [.nils, .nils])) (v := (.d (e_api_Resources r2.1))) (c' := (.d (e_api_Resources r2.1))) tyS25 (SetAt.here _ _) (by rfl) (by rfl) (by simp) rfl (ot 9 (.ptr 1009 0 [])) (ot 35 (.d (e_api_Resources r2.1))))
 (oc (OpJ.storeB (bt := 25) (c := (.st [.nils, .nils])) (v := (.d (e_api_Resources r4.1))) (c' := (.d (e_api_Resources r4.1))) tyS25 (SetAt.here _ _) (by rfl) (by rfl) (by simp) rfl (ot 10 (.ptr 1010 0 [])) (ot 38 (.d (e_api_Resources r4.1))))
 (OpJs.nil))))))))))) (by rfl) (by rfl) ?_
 refine seqQ_n ?_
 refine AWp.ghost (mp [] [(2, (qI_1 a2)), (3, (i6 a3)), (9, (.ptr 1009 0 [])), (10, (.ptr 1010 0 []))] [(500, some (.know (globF 0 [50, 52, 133]))), (501, some (.know (globF 1 [71, 134, 135]))), (1009, some (.box 25 (.d (e_api_Resources r2.1)))), (1010, some (.box 25 (.d (e_api_Resources r4.1))))] hB) ?_
 refine AWp.seq ?_
 obtain ⟨r5, hr5, h⟩ := bindS h
 refine AWp.region (oc (mv hN (ot 2 (qI_1 a2)))
 (oc (OpJ.callFn hB fnOk7 (exchangepointmake_New_ac a2 r5 hr5) [(1005, 100400)] (by kernel_rfl) (L rfl) (by kernel_rfl) (OpdL.cons (ot 39 (qI_1 a2)) OpdL.nil))
 (oc (OpJ.assign (L rfl) (ot 40 (.ptr 100400 0 [])))
 (OpJs.nil)))) (by rfl) (by rfl) ?_
 refine seqQ_n ?_
 refine AWp.ghost (mp [] [(3, (i6 a3)), (9, (.ptr 1009 0 [])), (10, (.ptr 1010 0 [])), (11, (.ptr 100400 0 []))] [(500, some (.know (globF 0 [50, 52, 133]))), (501, some (.know (globF 1 [71, 134, 135]))), (1009, some (.box 25 (.d (e_api_Resources r2.1)))), (1010, some (.box 25 (.d (e_api_Resources r4.1)))), (100400, some (.box 58 (.d (e_exchangepointmake_Deck r5))))] hB) ?_
 refine AWp.seq ?_
 obtain ⟨r6, hr6, h⟩ := bindS h
 refine AWp.region (oc (lb hN 25 (.d (e_api_Resources r2.1)) (.d (e_api_Resources r2.1)) tyS25 (At.here _) (ot 9 (.ptr 1009 0 [])))
 (oc (lb hN 25 (.d (e_api_Resources r4.1)) (.d (e_api_Resources r4.1)) tyS25 (At.here _) (ot 10 (.ptr 1010 0 [])))
 (oc (OpJ.callFn hB fnOk10 (resource_Union_ac r2.1 r4.1 r6 hr6) [(500, 500), (501, 501)] (by kernel_rfl) (L rfl) (by kernel_rfl) (OpdL.cons (ot 42 (.d (e_api_Resources r2.1))) (OpdL.cons (ot 43 (.d (e_api_Resources r4.1))) OpdL.nil)))
 (oc (mv hN (ot 44 (.tup [(.d (e_api_Resources r6.1)), (i6 r6.2)])))
 (oc (OpJ.extract (v := (.d (e_api_Resources r6.1))) (by rfl) rfl (L rfl) (ot 41 (.tup [(.d (e_api_Resources r6.1)), (i6 r6.2)])))
 (oc (OpJ.extract (v := (i6 r6.2)) (by rfl) rfl (L rfl) (ot 41 (.tup [(.d (e_api_Resources r6.1)), (i6 r6.2)])))
 (oc (OpJ.alloc hB tyZ25 (nm := 1012) (by decide) (L rfl))
 (oc (OpJ.storeB (bt := 25) (c := (.st [.nils, .nils])) (v := (.d (e_api_Resources r6.1))) (c' := (.d (e_api_Resources r6.1))) tyS25 (SetAt.here _ _) (by rfl) (by rfl) (by simp) rfl (ot 12 (.ptr 1012 0 [])) (ot 45 (.d (e_api_Resources r6.1))))
 (oc (OpJ.assign (L rfl) (ot 46 (i6 r6.2)))
 (OpJs.nil)))))))))) (by rfl) (by rfl) ?_
 refine seqQ_n ?_
 refine AWp.ghost (mp [] [(3, (i6 a3)), (9, (.ptr 1009 0 [])), (10, (.ptr 1010 0 [])), (11, (.ptr 100400 0 [])), (12, (.ptr 1012 0 [])), (13, (i6 r6.2))] [(500, some (.know (globF 0 [50, 52, 133]))), (501, some (.know (globF 1 [71, 134, 135]))), (1009, some (.box 25 (.d (e_api_Resources r2.1)))), (1010, some (.box 25 (.d (e_api_Resources r4.1)))), (1012, some (.box 25 (.d (e_api_Resources r6.1)))), (100400, some (.box 58 (.d (e_exchangepointmake_Deck r5))))] hB) ?_
 refine AWp.seq ?_
 obtain ⟨r7, hr7, h⟩ := bindS h
 refine AWp.region (oc (lb hN 25 (.d (e_api_Resources r2.1)) (.d (e_api_Resources r2.1)) tyS25 (At.here _) (ot 9 (.ptr 1009 0 [])))
 (oc (lb hN 25 (.d (e_api_Resources r4.1)) (.d (e_api_Resources r4.1)) tyS25 (At.here _) (ot 10 (.ptr 1010 0 [])))
 (oc (OpJ.callFn hB fnOk12 (resource_Intersect_ac r2.1 r4.1 r7 hr7) [(500, 500), (501, 501)] (by kernel_rfl) (L rfl) (by kernel_rfl) (OpdL.cons (ot 48 (.d (e_api_Resources r2.1))) (OpdL.cons (ot 49 (.d (e_api_Resources r4.1))) OpdL.nil)))
 (oc (mv hN (ot 50 (.tup [(.d (e_api_Resources r7.1)), (i6 r7.2)])))
 (oc (OpJ.extract (v := (.d (e_api_Resources r7.1))) (by rfl) rfl (L rfl) (ot 47 (.tup [(.d (e_api_Resources r7.1)), (i6 r7.2)])))
 (oc (OpJ.extract (v := (i6 r7.2)) (by rfl) rfl (L rfl) (ot 47 (.tup [(.d (e_api_Resources r7.1)), (i6 r7.2)])))
 (oc (OpJ.alloc hB tyZ25 (nm := 1014) (by decide) (L rfl))
 (oc (OpJ.storeB (bt := 25) (c := (.st [.nils, .nils])) (v := (.d (e_api_Resources r7.1))) (c' := (.d (e_api_Resources r7.1))) tyS25 (SetAt.here _ _) (by rfl) (by rfl) (by simp) rfl (ot 14 (.ptr 1014 0 [])) (ot 51 (.d (e_api_Resources r7.1))))
 (oc (OpJ.assign (L rfl) (ot 52 (i6 r7.2)))
 (OpJs.nil)))))))))) (by rfl) (by rfl) ?_
 refine seqQ_n ?_
 refine AWp.ghost (mp [] [(3, (i6 a3)), (9, (.ptr 1009 0 [])), (10, (.ptr 1010 0 [])), (11, (.ptr 100400 0 [])), (12, (.ptr 1012 0 [])), (13, (i6 r6.2)), (14, (.ptr 1014 0 [])), (15, (i6 r7.2))] [(500, some (.know (globF 0 [50, 52, 133]))), (501, some (.know (globF 1 [71, 134, 135]))), (1009, some (.box 25 (.d (e_api_Resources r2.1)))), (1010, some (.box 25 (.d (e_api_Resources r4.1)))), (1012, some (.box 25 (.d (e_api_Resources r6.1)))), (1014, some (.box 25 (.d (e_api_Resources r7.1)))), (100400, some (.box 58 (.d (e_exchangepointmake_Deck r5))))] hB) ?_
 refine AWp.seq ?_
 obtain ⟨r8, hr8, h⟩ := bindS h
 refine AWp.region (oc (lb hN 25 (.d (e_api_Resources r2.1)) (.d (e_api_Resources r2.1)) tyS25 (At.here _) (ot 9 (.ptr 1009 0 [])))
 (oc (lb hN 25 (.d (e_api_Resources r4.1)) (.d (e_api_Resources r4.1)) tyS25 (At.here _) (ot 10 (.ptr 1010 0 [])))
 (oc (OpJ.callFn hB fnOk14 (resource_Minus_ac r2.1 r4.1 r8 hr8) [(500, 500), (501, 501)] (by kernel_rfl) (L rfl) (by kernel_rfl) (OpdL.cons (ot 54 (.d (e_api_Resources r2.1))) (OpdL.cons (ot 55 (.d (e_api_Resources r4.1))) OpdL.nil)))
 (oc (mv hN (ot 56 (.tup [(.d (e_api_Resources r8.1)), (i6 r8.2)])))
 (oc (OpJ.extract (v := (.d (e_api_Resources r8.1))) (by rfl) rfl (L rfl) (ot 53 (.tup [(.d (e_api_Resources r8.1)), (i6 r8.2)])))
 (oc (OpJ.extract (v := (i6 r8.2)) (by rfl) rfl (L rfl) (ot 53 (.tup [(.d (e_api_Resources r8.1)), (i6 r8.2)])))
 (oc (OpJ.alloc hB tyZ25 (nm := 1016) (by decide) (L rfl))
 (oc (OpJ.storeB (bt := 25) (c := (.st [.nils, .nils])) (v := (.d (e_api_Resources r8.1))) (c' := (.d (e_api_Resources r8.1))) tyS25 (SetAt.here _ _) (by rfl) (by rfl) (by simp) rfl (ot 16 (.ptr 1016 0 [])) (ot 57 (.d (e_api_Resources r8.1))))
 (oc (OpJ.assign (L rfl) (ot 58 (i6 r8.2)))
 (OpJs.nil)))))))))) (by rfl) (by rfl) ?_
 refine seqQ_n ?_
 refine AWp.ghost (mp [] [(3, (i6 a3)), (9, (.ptr 1009 0 [])), (10, (.ptr 1010 0 [])), (11, (.ptr 100400 0 [])), (12, (.ptr 1012 0 [])), (13, (i6 r6.2)), (14, (.ptr 1014 0 [])), (15, (i6 r7.2)), (16, (.ptr 1016 0 [])), (17, (i6 r8.2))] [(500, some (.know (globF 0 [50, 52, 133]))), (501, some (.know (globF 1 [71, 134, 135]))), (1009, some (.box 25 (.d (e_api_Resources r2.1)))), (1010, some (.box 25 (.d (e_api_Resources r4.1)))), (1012, some (.box 25 (.d (e_api_Resources r6.1)))), (1014, some (.box 25 (.d (e_api_Resources r7.1)))), (1016, some (.box 25 (.d (e_api_Resources r8.1)))), (100400, some (.box 58 (.d (e_exchangepointmake_Deck r5))))] hB) ?_
 refine AWp.seq ?_
 refine AWp.seq ?_
 refine AWp.cut h (fun m15 : Bool => ([(3, (i6 a3)), (9, (.ptr 1009 0 [])), (10, (.ptr 1010 0 [])), (11, (.ptr 100400 0 [])), (12, (.ptr 1012 0 [])), (14, (.ptr 1014 0 [])), (16, (.ptr 1016 0 [])), (83, (bo m15))] : EL)) (fun m15 : Bool => ([(500, some (.know (globF 0 [50, 52, 133]))), (501, some (.know (globF 1 [71, 134, 135]))), (1009, some (.box 25 (.d (e_api_Resources r2.1)))), (1010, some (.box 25 (.d (e_api_Resources r4.1)))), (1012, some (.box 25 (.d (e_api_Resources r6.1)))), (1014, some (.box 25 (.d (e_api_Resources r7.1)))), (1016, some (.box 25 (.d (e_api_Resources r8.1)))), (100400, some (.box 58 (.d (e_exchangepointmake_Deck r5))))] : OL)) (fun m15 h E' O' hmat => ?_) (fun j16 hjj16 h => ?_)
 ·refine seqQ_n ?_
  refine AWp.ghost hmat ?_
  refine AWp.cond rfl (fun hg17 => ?_) (fun hg17 => ?_)
  ·replace h := ite_t hg17 h
   refine sr (c (OpJ.assign (L rfl) (Opd.bool false)) rfl cn) ?_
   refine gh [(8, _)] [(500, some _), (501, some _)] hB rfl rfl (by rfl) ?_
   refine AWp.ret ?_
   refine seqQ_r ?_
   obtain rfl := Option.some.inj h
   exact ⟨.inl rfl, _, _, (kp [(8, _)] [(500, some _), (501, some _)] hB rfl rfl (by rfl)), [(bo false)], (Res.tmp (by rfl) (by rfl) Res.nil), rfl, by rfl, by rfl, by rfl⟩
  ·replace h := ite_f hg17 h
   refine AWp.skip ?_
   refine seqQ_n ?_
   refine AWp.seq ?_
   obtain ⟨r18, hr18, h⟩ := bindS h
   obtain ⟨r19, hr19, h⟩ := bindS h
   obtain ⟨r20, hr20, h⟩ := bindS h
   refine AWp.region (oc (mv hN (ot 11 (.ptr 100400 0 [])))
    (oc (OpJ.callFn hB fnOk20 (exchangepointmake_Deck_Addr_ac r5 r18 hr18) [(0, 100400)] (by kernel_rfl) (L rfl) (by kernel_rfl) (OpdL.cons (ot 84 (.ptr 100400 0 [])) OpdL.nil))
    (oc (mv hN (ot 11 (.ptr 100400 0 [])))
    (oc (OpJ.callFn hB fnOk20 (exchangepointmake_Deck_Addr_ac r18.2 r19 hr19) [(0, 100400)] (by kernel_rfl) (L rfl) (by kernel_rfl) (OpdL.cons (ot 86 (.ptr 100400 0 [])) OpdL.nil))
    (oc (mv hN (ot 11 (.ptr 100400 0 [])))
    (oc (OpJ.callFn hB fnOk20 (exchangepointmake_Deck_Addr_ac r19.2 r20 hr20) [(0, 100400)] (by kernel_rfl) (L rfl) (by kernel_rfl) (OpdL.cons (ot 88 (.ptr 100400 0 [])) OpdL.nil))
    (oc (OpJ.buildSliceR Tryz.underlying44 tyS42 tyZD42 (by rfl) (by decide) (by decide) hB (nm := 1090) (by decide) (len := ([r18.1, r19.1, r20.1] : List api_Addr).length) (by rfl) (Opds.cons (ot 85 (.d (e_api_Addr r18.1))) (Opds.cons (ot 87 (.d (e_api_Addr r19.1))) (Opds.cons (ot 89 (.d (e_api_Addr r20.1))) Opds.nil))) (by kernel_rfl) (es := ([r18.1, r19.1, r20.1] : List api_Addr).map e_api_Addr) (by rfl) (by rfl) (by kernel_rfl) (by simp) (L rfl))
    (oc (OpJ.assign (L rfl) (ot 90 (.sref 1090 3 0 (([r18.1, r19.1, r20.1] : List api_Addr).length))))
    (OpJs.nil))))))))) (by rfl) (by rfl) ?_
   refine seqQ_n ?_
   refine AWp.ghost (mp [] [(3, (i6 a3)), (9, (.ptr 1009 0 [])), (10, (.ptr 1010 0 [])), (12, (.ptr 1012 0 [])), (14, (.ptr 1014 0 [])), (16, (.ptr 1016 0 [])), (18, (.sref 1090 3 0 (([r18.1, r19.1, r20.1] : List api_Addr).length)))] [(500, some (.know (globF 0 [50, 52, 133]))), (501, some (.know (globF 1 [71, 134, 135]))), (1009, some (.box 25 (.d (e_api_Resources r2.1)))), (1010, some (.box 25 (.d (e_api_Resources r4.1)))), (1012, some (.box 25 (.d (e_api_Resources r6.1)))), (1014, some (.box 25 (.d (e_api_Resources r7.1)))), (1016, some (.box 25 (.d (e_api_Resources r8.1)))), (1090, some (we_api_Addr_42_3 ([r18.1, r19.1, r20.1] : List api_Addr)))] hB) ?_
   refine AWp.seq ?_
   obtain ⟨hc21, h⟩ := chk_some h
   obtain ⟨hc22, h⟩ := chk_some h
   refine sd (c (ov (.ptr 1009 0 [0]) (fp hN Tryz.underlying25 0 tyS22 _ (q 9))) rfl (c (lb hN 25 _ _ tyS22 (ad _) (q 91)) rfl (cg (OpJ.appendN hB Tryz.underlying22 tyE46 (nm := 1093) (by decide) (ys := r2.1.fAddrs.map e_api_Range) (len := r2.1.fAddrs.length) (by simp) (map_sz (f := e_api_Range) (fun _ => rfl)) (by rw [List.length_map]; exact lim_mulN hc21 (by decide)) (by rw [List.length_map]; exact lim_leN hc21) (L rfl) Opd.nils (q 92)) rfl (c (ov (.ptr 1010 0 [0]) (fp hN Tryz.underlying25 0 tyS22 _ (q 10))) rfl (c (lb hN 25 _ _ tyS22 (ad _) (q 94)) rfl (cg (OpJ.append hB Tryz.underlying22 tyE46 (nm := 1096) (by decide) (es := r2.1.fAddrs.map e_api_Range) (ys := r4.1.fAddrs.map e_api_Range) (es' := (r2.1.fAddrs ++ r4.1.fAddrs).map e_api_Range) (len := (r2.1.fAddrs ++ r4.1.fAddrs).length) (by simp) (by simp) (map_sz (f := e_api_Range) (fun _ => rfl)) (by rw [List.length_map]; exact lim_mulN hc22 (by decide)) (by rw [List.length_map]; exact lim_leN hc22) (L rfl) (by simp) (q 93) (q 95)) rfl (c (OpJ.lenS Tryz.underlying22 (L rfl) (q 96)) rfl (c (mv hN (Opd.int .i64 (0))) rfl cn)))))))) (by kernel_rfl) (by kernel_rfl) ?_
   refine gh [(3, _), (9, _), (10, _), (12, _), (14, _), (16, _), (18, _), (96, _), (97, _), (98, _)] [(500, some _), (501, some _), (1009, some _), (1010, some _), (1012, some _), (1014, some _), (1016, some _), (1090, some _), (1096, some _)] hB rfl rfl (by rfl) ?_
   refine AWp.block ?_
   obtain ⟨p46, hx59, h⟩ := bindS h
   refine lg (exchangepointlaw21_ResourceSets_L0 r2 r4) (fun s23 : Int × (List api_Addr) => ([(3, (i6 a3)), (9, (.ptr 1009 0 [])), (10, (.ptr 1010 0 [])), (12, (.ptr 1012 0 [])), (14, (.ptr 1014 0 [])), (16, (.ptr 1016 0 [])), (18, (.sref 3018 3 0 s23.2.length)), (96, (.sref 1096 6 0 ((r2.1.fAddrs ++ r4.1.fAddrs).length))), (97, (i6 ((r2.1.fAddrs ++ r4.1.fAddrs).length : Int))), (98, (i6 s23.1))] : EL)) (fun s23 : Int × (List api_Addr) => ([(500, some (.know (globF 0 [50, 52, 133]))), (501, some (.know (globF 1 [71, 134, 135]))), (1009, some (.box 25 (.d (e_api_Resources r2.1)))), (1010, some (.box 25 (.d (e_api_Resources r4.1)))), (1012, some (.box 25 (.d (e_api_Resources r6.1)))), (1014, some (.box 25 (.d (e_api_Resources r7.1)))), (1016, some (.box 25 (.d (e_api_Resources r8.1)))), (1096, some (we_api_Range_46_6 (r2.1.fAddrs ++ r4.1.fAddrs))), (3018, some (we_api_Addr_42_3 s23.2))] : OL)) (fun (p46 : ((List api_Addr))) e E' O' => e = .exit 0 ∧ Mat B E' O' ([(3, (i6 a3)), (9, (.ptr 1009 0 [])), (10, (.ptr 1010 0 [])), (12, (.ptr 1012 0 [])), (14, (.ptr 1014 0 [])), (16, (.ptr 1016 0 [])), (18, (.sref 3018 3 0 p46.length))] : EL) ([(500, some (.know (globF 0 [50, 52, 133]))), (501, some (.know (globF 1 [71, 134, 135]))), (1009, some (.box 25 (.d (e_api_Resources r2.1)))), (1010, some (.box 25 (.d (e_api_Resources r4.1)))), (1012, some (.box 25 (.d (e_api_Resources r6.1)))), (1014, some (.box 25 (.d (e_api_Resources r7.1)))), (1016, some (.box 25 (.d (e_api_Resources r8.1)))), (3018, some (we_api_Addr_42_3 p46))] : OL)) hx59 (mp [(3018, 1090)] _ _ hB) (fun s23 y h => ?_) (fun e E' O' hR => ?_)
   ·unfold exchangepointlaw21_ResourceSets_L0 at h
    refine sr (c (OpJ.lss (L rfl) (q 98) (q 97)) rfl cn) ?_
    refine gh [(3, _), (9, _), (10, _), (12, _), (14, _), (16, _), (18, _), (96, _), (97, _), (98, _), (99, _)] [(500, some _), (501, some _), (1009, some _), (1010, some _), (1012, some _), (1014, some _), (1016, some _), (1096, some _), (3018, some _)] hB rfl rfl (by rfl) ?_
    refine AWp.seq ?_
    refine AWp.cond rfl (fun hg47 => ?_) (fun hg47 => ?_)
    ·replace h := ite_t hg47 h
     refine AWp.skip ?_
     refine seqQ_n ?_
     refine AWp.seq ?_
     refine AWp.block ?_
     obtain ⟨x48, hx48, h⟩ := bindS h
     obtain ⟨x49, hx49, h⟩ := bindS h
     refine sr (c (OpJ.val (v' := (.ptr 1096 (s23.1.toNat * 6) [s23.1.toNat])) (by simp) (OpJ.indexS Tryz.underlying22 tyS46 (idx_some hx48).1 (by have := idx_lt hx48; first | (simpa using this) | ((try simp only [List.length_map] at this); (try simp only [List.length_map]); omega)) (L rfl) (q 96) (q 98))) rfl (c (OpJ.loadR (e := 46) (sz := 6) tyS46 (get_map e_api_Range (idx_some hx49).2) (o := 0) (At.here _) (by rfl) (by rfl) (by rfl) (L rfl) (q 100)) rfl (cg (OpJ.alloc hB tyZ46 (nm := 1020) (by decide) (L rfl)) rfl (cg (OpJ.storeB tyS46 (SetAt.here _ _) (by rfl) (by rfl) (by simp) rfl (q 20) (q 101)) rfl cn)))) ?_
     refine gh [(3, _), (9, _), (10, _), (12, _), (14, _), (16, _), (18, _), (20, _), (96, _), (97, _), (98, _)] [(500, some _), (501, some _), (1009, some _), (1010, some _), (1012, some _), (1014, some _), (1016, some _), (1020, some _), (1096, some _), (3018, some _)] hB rfl rfl (by rfl) ?_
     obtain ⟨r50, hr50, h⟩ := bindS h
     refine sr (c (ov (.ptr 1020 3 [1]) (fp hN Tryz.underlying46 3 tyS42 _ (q 20))) rfl (c (lb hN 46 _ _ tyS42 (ad _) (q 103)) rfl (cg (cf hB fnOk21 (exchangepointref01_Next_ac x49.fTo r50 hr50) (L rfl) (OpdL.cons (q 104) OpdL.nil)) rfl (c (mv hN (q 105)) rfl (c (OpJ.extract (by rfl) rfl (L rfl) (q 102)) rfl (c (OpJ.extract (by rfl) rfl (L rfl) (q 102)) rfl (cg (OpJ.alloc hB tyZ42 (nm := 1021) (by decide) (L rfl)) rfl (cg (OpJ.storeB tyS42 (SetAt.here _ _) (by rfl) (by rfl) (by simp) rfl (q 21) (q 106)) rfl (c (OpJ.assign (L rfl) (q 107)) rfl cn))))))))) ?_
     refine gh [(3, _), (9, _), (10, _), (12, _), (14, _), (16, _), (18, _), (20, _), (21, _), (22, _), (96, _), (97, _), (98, _)] [(500, some _), (501, some _), (1009, some _), (1010, some _), (1012, some _), (1014, some _), (1016, some _), (1020, some _), (1021, some _), (1096, some _), (3018, some _)] hB rfl rfl (by rfl) ?_
     obtain ⟨hc51, h⟩ := chk_some h
     refine sr (c (mv hN (q 18)) rfl (c (ov (.ptr 1020 0 [0]) (fp hN Tryz.underlying46 0 tyS42 _ (q 20))) rfl (c (lb hN 46 _ _ tyS42 (ad _) (q 109)) rfl (c (ov (.ptr 1020 3 [1]) (fp hN Tryz.underlying46 3 tyS42 _ (q 20))) rfl (c (lb hN 46 _ _ tyS42 (ad _) (q 111)) rfl (c (OpJ.buildSlice Tryz.underlying44 tyS42 tyZD42 (by rfl) (by decide) (by decide) (Opds.cons (q 110) (Opds.cons (q 112) Opds.nil)) (by kernel_rfl) (es := ([(e_api_Addr x49.fFrom), (e_api_Addr x49.fTo)] : List D)) (by rfl) (by rfl) (by kernel_rfl) (by simp) (L rfl)) rfl (cg (OpJ.append hB Tryz.underlying44 tyE42 (nm := 1114) (by decide) (es := s23.2.map e_api_Addr) (ys := ([x49.fFrom, x49.fTo] : List api_Addr).map e_api_Addr) (es' := (s23.2 ++ ([x49.fFrom, x49.fTo] : List api_Addr)).map e_api_Addr) (len := (s23.2 ++ ([x49.fFrom, x49.fTo] : List api_Addr)).length) (by simp) (by simp) (map_sz (f := e_api_Addr) (fun _ => rfl)) (by rw [List.length_map]; exact lim_mulN hc51 (by decide)) (by rw [List.length_map]; exact lim_leN hc51) (L rfl) (by simp) (q 108) (q 113)) rfl (c (OpJ.assign (L rfl) (q 114)) rfl cn)))))))) ?_
     refine gh [(3, _), (9, _), (10, _), (12, _), (14, _), (16, _), (18, _), (21, _), (22, _), (96, _), (97, _), (98, _)] [(500, some _), (501, some _), (1009, some _), (1010, some _), (1012, some _), (1014, some _), (1016, some _), (1021, some _), (1096, some _), (1114, some _)] hB rfl rfl (by rfl) ?_
     refine sr (c (mv hN (q 22)) rfl cn) ?_
     refine gh [(3, _), (9, _), (10, _), (12, _), (14, _), (16, _), (18, _), (21, _), (96, _), (97, _), (98, _), (115, _)] [(500, some _), (501, some _), (1009, some _), (1010, some _), (1012, some _), (1014, some _), (1016, some _), (1021, some _), (1096, some _), (1114, some _)] hB rfl rfl (by rfl) ?_
     refine AWp.cut h (fun m54 : (List api_Addr) => ([(3, (i6 a3)), (9, (.ptr 1009 0 [])), (10, (.ptr 1010 0 [])), (12, (.ptr 1012 0 [])), (14, (.ptr 1014 0 [])), (16, (.ptr 1016 0 [])), (18, (.sref 3018 3 0 m54.length)), (96, (.sref 1096 6 0 ((r2.1.fAddrs ++ r4.1.fAddrs).length))), (97, (i6 ((r2.1.fAddrs ++ r4.1.fAddrs).length : Int))), (98, (i6 s23.1))] : EL)) (fun m54 : (List api_Addr) => ([(500, some (.know (globF 0 [50, 52, 133]))), (501, some (.know (globF 1 [71, 134, 135]))), (1009, some (.box 25 (.d (e_api_Resources r2.1)))), (1010, some (.box 25 (.d (e_api_Resources r4.1)))), (1012, some (.box 25 (.d (e_api_Resources r6.1)))), (1014, some (.box 25 (.d (e_api_Resources r7.1)))), (1016, some (.box 25 (.d (e_api_Resources r8.1)))), (1096, some (we_api_Range_46_6 (r2.1.fAddrs ++ r4.1.fAddrs))), (3018, some (we_api_Addr_42_3 m54))] : OL)) (fun m54 h E' O' hmat => ?_) (fun j55 hjj55 h => ?_)
     ·refine blkQ_n ?_
      refine seqQ_n ?_
      refine AWp.ghost hmat ?_
      refine rg (c (add6 (L rfl) (q 98) (Opd.int .i64 (1))) rfl (c (mv hN (q 120)) rfl cn)) ?_
      obtain rfl := Option.some.inj h
      exact ⟨rfl, (Mat.trans (mp [] [(3, (i6 a3)), (9, (.ptr 1009 0 [])), (10, (.ptr 1010 0 [])), (12, (.ptr 1012 0 [])), (14, (.ptr 1014 0 [])), (16, (.ptr 1016 0 [])), (18, (.sref 3018 3 0 m54.length)), (96, (.sref 1096 6 0 ((r2.1.fAddrs ++ r4.1.fAddrs).length))), (97, (i6 ((r2.1.fAddrs ++ r4.1.fAddrs).length : Int))), (98, (i6 (w64 (s23.1 + (1 : Int)))))] [(500, some (.know (globF 0 [50, 52, 133]))), (501, some (.know (globF 1 [71, 134, 135]))), (1009, some (.box 25 (.d (e_api_Resources r2.1)))), (1010, some (.box 25 (.d (e_api_Resources r4.1)))), (1012, some (.box 25 (.d (e_api_Resources r6.1)))), (1014, some (.box 25 (.d (e_api_Resources r7.1)))), (1016, some (.box 25 (.d (e_api_Resources r8.1)))), (1096, some (we_api_Range_46_6 (r2.1.fAddrs ++ r4.1.fAddrs))), (3018, some (we_api_Addr_42_3 m54))] hB) (mp [] _ _ hB))⟩
     ·refine AWp.cond rfl (fun hg56 => ?_) (fun hg56 => ?_)
      ·replace h := ite_t hg56 h
       obtain ⟨hc57, h⟩ := chk_some h
       refine rg (c (mv hN (q 18)) rfl (c (lb hN 42 _ _ tyS42 (At.here _) (q 21)) rfl (c (OpJ.buildSlice Tryz.underlying44 tyS42 tyZD42 (by rfl) (by decide) (by decide) (Opds.cons (q 117) Opds.nil) (by kernel_rfl) (es := ([(e_api_Addr r50.1)] : List D)) (by rfl) (by rfl) (by kernel_rfl) (by simp) (L rfl)) rfl (cg (OpJ.append hB Tryz.underlying44 tyE42 (nm := 1119) (by decide) (es := (s23.2 ++ ([x49.fFrom, x49.fTo] : List api_Addr)).map e_api_Addr) (ys := ([r50.1] : List api_Addr).map e_api_Addr) (es' := ((s23.2 ++ ([x49.fFrom, x49.fTo] : List api_Addr)) ++ ([r50.1] : List api_Addr)).map e_api_Addr) (len := ((s23.2 ++ ([x49.fFrom, x49.fTo] : List api_Addr)) ++ ([r50.1] : List api_Addr)).length) (by simp) (by simp) (map_sz (f := e_api_Addr) (fun _ => rfl)) (by rw [List.length_map]; exact lim_mulN hc57 (by decide)) (by rw [List.length_map]; exact lim_leN hc57) (L rfl) (by simp) (q 116) (q 118)) rfl (c (OpJ.assign (L rfl) (q 119)) rfl cn))))) ?_
       exact hjj55 _ h _ _ (Mat.trans (mp [] [(3, (i6 a3)), (9, (.ptr 1009 0 [])), (10, (.ptr 1010 0 [])), (12, (.ptr 1012 0 [])), (14, (.ptr 1014 0 [])), (16, (.ptr 1016 0 [])), (18, (.sref 1119 3 0 (((s23.2 ++ ([x49.fFrom, x49.fTo] : List api_Addr)) ++ ([r50.1] : List api_Addr)).length))), (96, (.sref 1096 6 0 ((r2.1.fAddrs ++ r4.1.fAddrs).length))), (97, (i6 ((r2.1.fAddrs ++ r4.1.fAddrs).length : Int))), (98, (i6 s23.1))] [(500, some (.know (globF 0 [50, 52, 133]))), (501, some (.know (globF 1 [71, 134, 135]))), (1009, some (.box 25 (.d (e_api_Resources r2.1)))), (1010, some (.box 25 (.d (e_api_Resources r4.1)))), (1012, some (.box 25 (.d (e_api_Resources r6.1)))), (1014, some (.box 25 (.d (e_api_Resources r7.1)))), (1016, some (.box 25 (.d (e_api_Resources r8.1)))), (1096, some (we_api_Range_46_6 (r2.1.fAddrs ++ r4.1.fAddrs))), (1119, some (we_api_Addr_42_3 ((s23.2 ++ ([x49.fFrom, x49.fTo] : List api_Addr)) ++ ([r50.1] : List api_Addr))))] hB) (mp [(3018, 1119)] _ _ hB))
      ·replace h := ite_f hg56 h
       refine AWp.skip ?_
       exact hjj55 _ h _ _ (mp [(3018, 1114)] _ _ hB)
    ·replace h := ite_f hg47 h
     refine AWp.exit ?_
     refine seqQ_e ?_
     obtain rfl := Option.some.inj h
     exact ⟨(fun hc => by cases hc), rfl, (mp [] _ _ hB)⟩
   ·obtain ⟨rfl, hmat⟩ := hR
    refine blkQ_hit ?_
    refine seqQ_n ?_
    refine AWp.ghost hmat ?_
    refine AWp.seq ?_
    refine sr (c (mv hN (q 18)) rfl (c (OpJ.lenS Tryz.underlying44 (L rfl) (q 121)) rfl (c (mv hN (Opd.int .i64 (0))) rfl cn))) ?_
    refine gh [(3, _), (9, _), (10, _), (12, _), (14, _), (16, _), (121, _), (122, _), (123, _)] [(500, some _), (501, some _), (1009, some _), (1010, some _), (1012, some _), (1014, some _), (1016, some _), (3018, some _)] hB rfl rfl (by rfl) ?_
    refine AWp.block ?_
    obtain ⟨x120, hx121, h⟩ := bindS h
    refine lg (exchangepointlaw21_ResourceSets_L1 r2 r4 r6 r7 r8 p46) (fun s60 : Int => ([(3, (i6 a3)), (9, (.ptr 1009 0 [])), (10, (.ptr 1010 0 [])), (12, (.ptr 1012 0 [])), (14, (.ptr 1014 0 [])), (16, (.ptr 1016 0 [])), (121, (.sref 3018 3 0 p46.length)), (122, (i6 (p46.length : Int))), (123, (i6 s60))] : EL)) (fun s60 : Int => ([(500, some (.know (globF 0 [50, 52, 133]))), (501, some (.know (globF 1 [71, 134, 135]))), (1009, some (.box 25 (.d (e_api_Resources r2.1)))), (1010, some (.box 25 (.d (e_api_Resources r4.1)))), (1012, some (.box 25 (.d (e_api_Resources r6.1)))), (1014, some (.box 25 (.d (e_api_Resources r7.1)))), (1016, some (.box 25 (.d (e_api_Resources r8.1)))), (3018, some (we_api_Addr_42_3 p46))] : OL)) (fun (x : (Unit) ⊕ (Unit)) e E' O' => match x with | (.inl _p) => e = .ret ∧ Mat B E' O' ([(8, (bo false))] : EL) ([(500, some (.know (globF 0 [50, 52, 133]))), (501, some (.know (globF 1 [71, 134, 135])))] : OL) | (.inr _p) => e = .exit 2 ∧ Mat B E' O' ([(3, (i6 a3)), (9, (.ptr 1009 0 [])), (10, (.ptr 1010 0 [])), (12, (.ptr 1012 0 [])), (14, (.ptr 1014 0 [])), (16, (.ptr 1016 0 []))] : EL) ([(500, some (.know (globF 0 [50, 52, 133]))), (501, some (.know (globF 1 [71, 134, 135]))), (1009, some (.box 25 (.d (e_api_Resources r2.1)))), (1010, some (.box 25 (.d (e_api_Resources r4.1)))), (1012, some (.box 25 (.d (e_api_Resources r6.1)))), (1014, some (.box 25 (.d (e_api_Resources r7.1)))), (1016, some (.box 25 (.d (e_api_Resources r8.1))))] : OL)) hx121 (mp [] _ _ hB) (fun s60 y h => ?_) (fun e E' O' hR => ?_)
    ·unfold exchangepointlaw21_ResourceSets_L1 at h
     refine sr (c (OpJ.lss (L rfl) (q 123) (q 122)) rfl cn) ?_
     refine gh [(3, _), (9, _), (10, _), (12, _), (14, _), (16, _), (121, _), (122, _), (123, _), (124, _)] [(500, some _), (501, some _), (1009, some _), (1010, some _), (1012, some _), (1014, some _), (1016, some _), (3018, some _)] hB rfl rfl (by rfl) ?_
     refine AWp.seq ?_
     refine AWp.cond rfl (fun hg101 => ?_) (fun hg101 => ?_)
     ·replace h := ite_t hg101 h
      refine AWp.skip ?_
      refine seqQ_n ?_
      refine AWp.seq ?_
      refine AWp.block ?_
      obtain ⟨x102, hx102, h⟩ := bindS h
      obtain ⟨x103, hx103, h⟩ := bindS h
      refine sr (c (OpJ.val (v' := (.ptr 3018 (s60.toNat * 3) [s60.toNat])) (by simp) (OpJ.indexS Tryz.underlying44 tyS42 (idx_some hx102).1 (by have := idx_lt hx102; first | (simpa using this) | ((try simp only [List.length_map] at this); (try simp only [List.length_map]); omega)) (L rfl) (q 121) (q 123))) rfl (c (OpJ.loadR (e := 42) (sz := 3) tyS42 (get_map e_api_Addr (idx_some hx103).2) (o := 0) (At.here _) (by rfl) (by rfl) (by rfl) (L rfl) (q 125)) rfl (cg (OpJ.alloc hB tyZ42 (nm := 1024) (by decide) (L rfl)) rfl (cg (OpJ.storeB tyS42 (SetAt.here _ _) (by rfl) (by rfl) (by simp) rfl (q 24) (q 126)) rfl cn)))) ?_
      refine gh [(3, _), (9, _), (10, _), (12, _), (14, _), (16, _), (24, _), (121, _), (122, _), (123, _)] [(500, some _), (501, some _), (1009, some _), (1010, some _), (1012, some _), (1014, some _), (1016, some _), (1024, some _), (3018, some _)] hB rfl rfl (by rfl) ?_
      obtain ⟨r104, hr104, h⟩ := bindS h
      obtain ⟨r105, hr105, h⟩ := bindS h
      refine sd (c (lb hN 25 _ _ tyS25 (At.here _) (q 9)) rfl (c (lb hN 42 _ _ tyS42 (At.here _) (q 24)) rfl (cg (cf hB fnOk22 (exchangepointlaw21_in_ac r2.1 x103 r104 hr104) (L rfl) (OpdL.cons (q 127) (OpdL.cons (q 128) OpdL.nil))) rfl (c (lb hN 25 _ _ tyS25 (At.here _) (q 10)) rfl (c (lb hN 42 _ _ tyS42 (At.here _) (q 24)) rfl (cg (cf hB fnOk22 (exchangepointlaw21_in_ac r4.1 x103 r105 hr105) (L rfl) (OpdL.cons (q 130) (OpdL.cons (q 131) OpdL.nil))) rfl (c (OpJ.assign (L rfl) (q 129)) rfl (c (OpJ.assign (L rfl) (q 132)) rfl cn)))))))) (by kernel_rfl) (by kernel_rfl) ?_
      refine gh [(3, _), (9, _), (10, _), (12, _), (14, _), (16, _), (24, _), (25, _), (26, _), (121, _), (122, _), (123, _)] [(500, some _), (501, some _), (1009, some _), (1010, some _), (1012, some _), (1014, some _), (1016, some _), (1024, some _), (3018, some _)] hB rfl rfl (by rfl) ?_
      refine AWp.seq ?_
      refine AWp.cut h (fun m112 : Bool => ([(3, (i6 a3)), (9, (.ptr 1009 0 [])), (10, (.ptr 1010 0 [])), (12, (.ptr 1012 0 [])), (14, (.ptr 1014 0 [])), (16, (.ptr 1016 0 [])), (121, (.sref 3018 3 0 p46.length)), (122, (i6 (p46.length : Int))), (123, (i6 s60)), (161, (bo m112))] : EL)) (fun m112 : Bool => ([(500, some (.know (globF 0 [50, 52, 133]))), (501, some (.know (globF 1 [71, 134, 135]))), (1009, some (.box 25 (.d (e_api_Resources r2.1)))), (1010, some (.box 25 (.d (e_api_Resources r4.1)))), (1012, some (.box 25 (.d (e_api_Resources r6.1)))), (1014, some (.box 25 (.d (e_api_Resources r7.1)))), (1016, some (.box 25 (.d (e_api_Resources r8.1)))), (3018, some (we_api_Addr_42_3 p46))] : OL)) (fun m112 h E' O' hmat => ?_) (fun j113 hjj113 h => ?_)
      ·refine seqQ_n ?_
       refine AWp.ghost hmat ?_
       refine AWp.cond rfl (fun hg114 => ?_) (fun hg114 => ?_)
       ·replace h := ite_t hg114 h
        refine sr (c (OpJ.assign (L rfl) (Opd.bool false)) rfl cn) ?_
        refine gh [(8, _)] [(500, some _), (501, some _)] hB rfl rfl (by rfl) ?_
        refine AWp.ret ?_
        refine blkQ_r ?_
        refine seqQ_r ?_
        obtain rfl := Option.some.inj h
        exact ⟨(fun hc => by cases hc), rfl, (mp [] _ _ hB)⟩
       ·replace h := ite_f hg114 h
        refine AWp.skip ?_
        refine blkQ_n ?_
        refine seqQ_n ?_
        refine rg (c (add6 (L rfl) (q 123) (Opd.int .i64 (1))) rfl (c (mv hN (q 162)) rfl cn)) ?_
        obtain rfl := Option.some.inj h
        exact ⟨rfl, (Mat.trans (mp [] [(3, (i6 a3)), (9, (.ptr 1009 0 [])), (10, (.ptr 1010 0 [])), (12, (.ptr 1012 0 [])), (14, (.ptr 1014 0 [])), (16, (.ptr 1016 0 [])), (121, (.sref 3018 3 0 p46.length)), (122, (i6 (p46.length : Int))), (123, (i6 (w64 (s60 + (1 : Int)))))] [(500, some (.know (globF 0 [50, 52, 133]))), (501, some (.know (globF 1 [71, 134, 135]))), (1009, some (.box 25 (.d (e_api_Resources r2.1)))), (1010, some (.box 25 (.d (e_api_Resources r4.1)))), (1012, some (.box 25 (.d (e_api_Resources r6.1)))), (1014, some (.box 25 (.d (e_api_Resources r7.1)))), (1016, some (.box 25 (.d (e_api_Resources r8.1)))), (3018, some (we_api_Addr_42_3 p46))] hB) (mp [] _ _ hB))⟩
      ·obtain ⟨r115, hr115, h⟩ := bindS h
       rcases Bool.eq_false_or_eq_true (r115 != (r104 || r105)) with hg116 | hg116
       ·replace h := ite_t hg116 h
        refine rg (c (lb hN 25 _ _ tyS25 (At.here _) (q 12)) rfl (c (lb hN 42 _ _ tyS42 (At.here _) (q 24)) rfl (cg (cf hB fnOk22 (exchangepointlaw21_in_ac r6.1 x103 r115 hr115) (L rfl) (OpdL.cons (q 133) (OpdL.cons (q 134) OpdL.nil))) rfl (c (mv hN (q 25)) rfl (c (mv hN (q 136)) rfl (c (oq hN 137 (mv hN (q 26)) (OptL.keep (by rfl) OptL.nil) (GuardV.plain _)) rfl (c (OpJ.pickOr rfl (L rfl) (q 137) (q 138)) rfl (c (OpJ.neqB Tryz.underlying4 (L rfl) (q 135) (q 139)) rfl (c (OpJ.val (v' := .d (.bool true)) (by rw [hg116] <;> rfl) (mv hN (q 140))) rfl (cg (sU 141 (L rfl)) rfl (cg (sU 141 (L rfl)) rfl (cg (sU 141 (L rfl)) rfl (cg (sU 141 (L rfl)) rfl (cg (sU 141 (L rfl)) rfl (cg (sV 146 (L rfl)) rfl (cg (sU 141 (L rfl)) rfl (cg (sU 141 (L rfl)) rfl (c (OpJ.pickT (L rfl) (q 141) (Opd.bool true)) rfl (c (mv hN (q 150)) rfl (cg (sU 151 (L rfl)) rfl (cg (sU 151 (L rfl)) rfl (cg (sU 151 (L rfl)) rfl (cg (sU 151 (L rfl)) rfl (cg (sU 151 (L rfl)) rfl (cg (sV 156 (L rfl)) rfl (cg (sV 156 (L rfl)) rfl (cg (sU 151 (L rfl)) rfl (cg (sU 151 (L rfl)) rfl (c (OpJ.pickT (L rfl) (q 151) (Opd.bool true)) rfl cn))))))))))))))))))))))))))))) ?_
        exact hjj113 _ h _ _ (Mat.trans (mp [] [(3, (i6 a3)), (9, (.ptr 1009 0 [])), (10, (.ptr 1010 0 [])), (12, (.ptr 1012 0 [])), (14, (.ptr 1014 0 [])), (16, (.ptr 1016 0 [])), (121, (.sref 3018 3 0 p46.length)), (122, (i6 (p46.length : Int))), (123, (i6 s60)), (161, (bo true))] [(500, some (.know (globF 0 [50, 52, 133]))), (501, some (.know (globF 1 [71, 134, 135]))), (1009, some (.box 25 (.d (e_api_Resources r2.1)))), (1010, some (.box 25 (.d (e_api_Resources r4.1)))), (1012, some (.box 25 (.d (e_api_Resources r6.1)))), (1014, some (.box 25 (.d (e_api_Resources r7.1)))), (1016, some (.box 25 (.d (e_api_Resources r8.1)))), (3018, some (we_api_Addr_42_3 p46))] hB) (mp [] _ _ hB))
       ·replace h := ite_f hg116 h
        obtain ⟨r117, hr117, h⟩ := bindS h
        rcases Bool.eq_false_or_eq_true (r117 != (r104 && r105)) with hg118 | hg118
        ·replace h := ite_t hg118 h
         refine rg (c (lb hN 25 _ _ tyS25 (At.here _) (q 12)) rfl (c (lb hN 42 _ _ tyS42 (At.here _) (q 24)) rfl (cg (cf hB fnOk22 (exchangepointlaw21_in_ac r6.1 x103 r115 hr115) (L rfl) (OpdL.cons (q 133) (OpdL.cons (q 134) OpdL.nil))) rfl (c (mv hN (q 25)) rfl (c (mv hN (q 136)) rfl (c (oq hN 137 (mv hN (q 26)) (OptL.keep (by rfl) OptL.nil) (GuardV.plain _)) rfl (c (OpJ.pickOr rfl (L rfl) (q 137) (q 138)) rfl (c (OpJ.neqB Tryz.underlying4 (L rfl) (q 135) (q 139)) rfl (c (OpJ.val (v' := .d (.bool false)) (by rw [hg116] <;> rfl) (mv hN (q 140))) rfl (c (gd 141 (lb hN 25 _ _ tyS25 (At.here _) (q 14))) rfl (c (gd 141 (lb hN 42 _ _ tyS42 (At.here _) (q 24))) rfl (cg (gd 141 (cf hB fnOk22 (exchangepointlaw21_in_ac r7.1 x103 r117 hr117) (L rfl) (OpdL.cons (q 142) (OpdL.cons (q 143) OpdL.nil)))) rfl (c (gd 141 (mv hN (q 25))) rfl (c (gd 141 (mv hN (q 145))) rfl (c (oq hN 146 (mv hN (q 26)) (OptL.keep (by rfl) OptL.nil) (GuardV.plain _)) rfl (c (gd 141 (OpJ.pickAnd rfl (L rfl) (q 146) (q 147))) rfl (c (gd 141 (OpJ.neqB Tryz.underlying4 (L rfl) (q 144) (q 148))) rfl (c (OpJ.pickF (L rfl) (q 141) (q 149)) rfl (c (OpJ.val (v' := .d (.bool true)) (by rw [hg118] <;> rfl) (mv hN (q 150))) rfl (cg (sU 151 (L rfl)) rfl (cg (sU 151 (L rfl)) rfl (cg (sU 151 (L rfl)) rfl (cg (sU 151 (L rfl)) rfl (cg (sU 151 (L rfl)) rfl (cg (sV 156 (L rfl)) rfl (cg (sV 156 (L rfl)) rfl (cg (sU 151 (L rfl)) rfl (cg (sU 151 (L rfl)) rfl (c (OpJ.pickT (L rfl) (q 151) (Opd.bool true)) rfl cn))))))))))))))))))))))))))))) ?_
         exact hjj113 _ h _ _ (Mat.trans (mp [] [(3, (i6 a3)), (9, (.ptr 1009 0 [])), (10, (.ptr 1010 0 [])), (12, (.ptr 1012 0 [])), (14, (.ptr 1014 0 [])), (16, (.ptr 1016 0 [])), (121, (.sref 3018 3 0 p46.length)), (122, (i6 (p46.length : Int))), (123, (i6 s60)), (161, (bo true))] [(500, some (.know (globF 0 [50, 52, 133]))), (501, some (.know (globF 1 [71, 134, 135]))), (1009, some (.box 25 (.d (e_api_Resources r2.1)))), (1010, some (.box 25 (.d (e_api_Resources r4.1)))), (1012, some (.box 25 (.d (e_api_Resources r6.1)))), (1014, some (.box 25 (.d (e_api_Resources r7.1)))), (1016, some (.box 25 (.d (e_api_Resources r8.1)))), (3018, some (we_api_Addr_42_3 p46))] hB) (mp [] _ _ hB))
        ·replace h := ite_f hg118 h
         obtain ⟨r119, hr119, h⟩ := bindS h
         refine rg (c (lb hN 25 _ _ tyS25 (At.here _) (q 12)) rfl (c (lb hN 42 _ _ tyS42 (At.here _) (q 24)) rfl (cg (cf hB fnOk22 (exchangepointlaw21_in_ac r6.1 x103 r115 hr115) (L rfl) (OpdL.cons (q 133) (OpdL.cons (q 134) OpdL.nil))) rfl (c (mv hN (q 25)) rfl (c (mv hN (q 136)) rfl (c (oq hN 137 (mv hN (q 26)) (OptL.keep (by rfl) OptL.nil) (GuardV.plain _)) rfl (c (OpJ.pickOr rfl (L rfl) (q 137) (q 138)) rfl (c (OpJ.neqB Tryz.underlying4 (L rfl) (q 135) (q 139)) rfl (c (OpJ.val (v' := .d (.bool false)) (by rw [hg116] <;> rfl) (mv hN (q 140))) rfl (c (gd 141 (lb hN 25 _ _ tyS25 (At.here _) (q 14))) rfl (c (gd 141 (lb hN 42 _ _ tyS42 (At.here _) (q 24))) rfl (cg (gd 141 (cf hB fnOk22 (exchangepointlaw21_in_ac r7.1 x103 r117 hr117) (L rfl) (OpdL.cons (q 142) (OpdL.cons (q 143) OpdL.nil)))) rfl (c (gd 141 (mv hN (q 25))) rfl (c (gd 141 (mv hN (q 145))) rfl (c (oq hN 146 (mv hN (q 26)) (OptL.keep (by rfl) OptL.nil) (GuardV.plain _)) rfl (c (gd 141 (OpJ.pickAnd rfl (L rfl) (q 146) (q 147))) rfl (c (gd 141 (OpJ.neqB Tryz.underlying4 (L rfl) (q 144) (q 148))) rfl (c (OpJ.pickF (L rfl) (q 141) (q 149)) rfl (c (OpJ.val (v' := .d (.bool false)) (by rw [hg118] <;> rfl) (mv hN (q 150))) rfl (c (gd 151 (lb hN 25 _ _ tyS25 (At.here _) (q 16))) rfl (c (gd 151 (lb hN 42 _ _ tyS42 (At.here _) (q 24))) rfl (cg (gd 151 (cf hB fnOk22 (exchangepointlaw21_in_ac r8.1 x103 r119 hr119) (L rfl) (OpdL.cons (q 152) (OpdL.cons (q 153) OpdL.nil)))) rfl (c (gd 151 (mv hN (q 25))) rfl (c (gd 151 (mv hN (q 155))) rfl (c (oq hN 156 (mv hN (q 26)) (OptL.keep (by rfl) OptL.nil) (GuardV.plain _)) rfl (c (oq hN 156 (OpJ.not (L rfl) (q 157)) (OptL.opt OptL.nil) (GuardV.plain _)) rfl (c (gd 151 (OpJ.pickAnd rfl (L rfl) (q 156) (q 158))) rfl (c (gd 151 (OpJ.neqB Tryz.underlying4 (L rfl) (q 154) (q 159))) rfl (c (OpJ.pickF (L rfl) (q 151) (q 160)) rfl cn))))))))))))))))))))))))))))) ?_
         exact hjj113 _ h _ _ (Mat.trans (mp [] [(3, (i6 a3)), (9, (.ptr 1009 0 [])), (10, (.ptr 1010 0 [])), (12, (.ptr 1012 0 [])), (14, (.ptr 1014 0 [])), (16, (.ptr 1016 0 [])), (121, (.sref 3018 3 0 p46.length)), (122, (i6 (p46.length : Int))), (123, (i6 s60)), (161, (bo (r119 != (r104 && (!r105)))))] [(500, some (.know (globF 0 [50, 52, 133]))), (501, some (.know (globF 1 [71, 134, 135]))), (1009, some (.box 25 (.d (e_api_Resources r2.1)))), (1010, some (.box 25 (.d (e_api_Resources r4.1)))), (1012, some (.box 25 (.d (e_api_Resources r6.1)))), (1014, some (.box 25 (.d (e_api_Resources r7.1)))), (1016, some (.box 25 (.d (e_api_Resources r8.1)))), (3018, some (we_api_Addr_42_3 p46))] hB) (mp [] _ _ hB))
     ·replace h := ite_f hg101 h
      refine AWp.exit ?_
      refine seqQ_e ?_
      obtain rfl := Option.some.inj h
      exact ⟨(fun hc => by cases hc), rfl, (mp [] _ _ hB)⟩
    ·rcases x120 with _ | _
     ·obtain ⟨rfl, hmat⟩ := hR
      refine blkQ_r ?_
      refine seqQ_r ?_
      obtain rfl := Option.some.inj h
      exact ⟨.inl rfl, _, _, (Mat.trans hmat (mp [] [(8, (bo false))] [(500, some (.know (globF 0 [50, 52, 133]))), (501, some (.know (globF 1 [71, 134, 135])))] hB)), [(bo false)], (Res.tmp (by rfl) (by rfl) Res.nil), rfl, by rfl, by rfl, by rfl⟩
     ·obtain ⟨rfl, hmat⟩ := hR
      refine blkQ_hit ?_
      refine seqQ_n ?_
      refine AWp.ghost hmat ?_
      refine AWp.seq ?_
      obtain ⟨r122, hr122, h⟩ := bindS h
      obtain ⟨r123, hr123, h⟩ := bindS h
      refine sr (c (mv hN (q 3)) rfl (cg (cf hB fnOk23 (exchangepointmake_Mod_ac a3 (30 : Int) r122 hr122) (L rfl) (OpdL.cons (q 163) (OpdL.cons (Opd.int .i64 (30)) OpdL.nil))) rfl (c (mv hN (q 3)) rfl (cg (cf hB fnOk23 (exchangepointmake_Mod_ac a3 (12 : Int) r123 hr123) (L rfl) (OpdL.cons (q 165) (OpdL.cons (Opd.int .i64 (12)) OpdL.nil))) rfl (c (sub6 (L rfl) (Opd.int .i64 (4294967295)) (q 166)) rfl (c (OpJ.buildSlice Tryz.underlying26 tyS3 tyZD3 (by rfl) (by decide) (by decide) (Opds.cons (q 164) (Opds.cons (q 167) (Opds.cons (Opd.int .i64 (0)) (Opds.cons (Opd.int .i64 (4294967295)) Opds.nil)))) (by kernel_rfl) (es := ([(.int .i64 r122), (.int .i64 (w64 ((4294967295 : Int) - r123))), (.int .i64 0), (.int .i64 (4294967295 : Int))] : List D)) (by rfl) (by rfl) (by kernel_rfl) (by simp) (L rfl)) rfl (c (OpJ.val (v' := (i6 (([r122, (w64 ((4294967295 : Int) - r123)), (0 : Int), (4294967295 : Int)] : List Int).length : Int))) (by simp) (OpJ.lenD Tryz.underlying26 (L rfl) (q 168))) rfl (c (mv hN (Opd.int .i64 (0))) rfl cn)))))))) ?_
      refine gh [(9, _), (10, _), (12, _), (14, _), (16, _), (168, _), (169, _), (170, _)] [(500, some _), (501, some _), (1009, some _), (1010, some _), (1012, some _), (1014, some _), (1016, some _)] hB rfl rfl (by rfl) ?_
      refine AWp.block ?_
      obtain ⟨x181, hx182, h⟩ := bindS h
      refine lg (exchangepointlaw21_ResourceSets_L2 r2 r4 r6 r7 r8 r122 r123) (fun s124 : Int => ([(9, (.ptr 1009 0 [])), (10, (.ptr 1010 0 [])), (12, (.ptr 1012 0 [])), (14, (.ptr 1014 0 [])), (16, (.ptr 1016 0 [])), (168, (qI_1 ([r122, (w64 ((4294967295 : Int) - r123)), (0 : Int), (4294967295 : Int)] : List Int))), (169, (i6 (([r122, (w64 ((4294967295 : Int) - r123)), (0 : Int), (4294967295 : Int)] : List Int).length : Int))), (170, (i6 s124))] : EL)) (fun s124 : Int => ([(500, some (.know (globF 0 [50, 52, 133]))), (501, some (.know (globF 1 [71, 134, 135]))), (1009, some (.box 25 (.d (e_api_Resources r2.1)))), (1010, some (.box 25 (.d (e_api_Resources r4.1)))), (1012, some (.box 25 (.d (e_api_Resources r6.1)))), (1014, some (.box 25 (.d (e_api_Resources r7.1)))), (1016, some (.box 25 (.d (e_api_Resources r8.1))))] : OL)) (fun (x : (Unit) ⊕ (Unit)) e E' O' => match x with | (.inl _p) => e = .ret ∧ Mat B E' O' ([(8, (bo false))] : EL) ([(500, some (.know (globF 0 [50, 52, 133]))), (501, some (.know (globF 1 [71, 134, 135])))] : OL) | (.inr _p) => e = .exit 4 ∧ Mat B E' O' ([(9, (.ptr 1009 0 [])), (10, (.ptr 1010 0 [])), (12, (.ptr 1012 0 [])), (14, (.ptr 1014 0 [])), (16, (.ptr 1016 0 []))] : EL) ([(500, some (.know (globF 0 [50, 52, 133]))), (501, some (.know (globF 1 [71, 134, 135]))), (1009, some (.box 25 (.d (e_api_Resources r2.1)))), (1010, some (.box 25 (.d (e_api_Resources r4.1)))), (1012, some (.box 25 (.d (e_api_Resources r6.1)))), (1014, some (.box 25 (.d (e_api_Resources r7.1)))), (1016, some (.box 25 (.d (e_api_Resources r8.1))))] : OL)) hx182 (mp [] _ _ hB) (fun s124 y h => ?_) (fun e E' O' hR => ?_)
      ·unfold exchangepointlaw21_ResourceSets_L2 at h
       refine sr (c (OpJ.lss (L rfl) (q 170) (q 169)) rfl cn) ?_
       refine gh [(9, _), (10, _), (12, _), (14, _), (16, _), (168, _), (169, _), (170, _), (171, _)] [(500, some _), (501, some _), (1009, some _), (1010, some _), (1012, some _), (1014, some _), (1016, some _)] hB rfl rfl (by rfl) ?_
       refine AWp.seq ?_
       refine AWp.cond rfl (fun hg163 => ?_) (fun hg163 => ?_)
       ·replace h := ite_t hg163 h
        refine AWp.skip ?_
        refine seqQ_n ?_
        refine AWp.seq ?_
        refine AWp.block ?_
        obtain ⟨x164, hx164, h⟩ := bindS h
        refine sr (c (OpJ.indexD Tryz.underlying26 tyS3 (idx_some hx164).1 (get_map (eI .i64) (idx_some hx164).2) (L rfl) (q 168) (q 170)) rfl (c (OpJ.loadD tyS3 (by rfl) (by rfl) (L rfl) (q 172)) rfl (c (OpJ.assign (L rfl) (q 173)) rfl cn))) ?_
        refine gh [(9, _), (10, _), (12, _), (14, _), (16, _), (28, _), (168, _), (169, _), (170, _)] [(500, some _), (501, some _), (1009, some _), (1010, some _), (1012, some _), (1014, some _), (1016, some _)] hB rfl rfl (by rfl) ?_
        obtain ⟨r165, hr165, h⟩ := bindS h
        obtain ⟨r166, hr166, h⟩ := bindS h
        refine sd (c (lb hN 25 _ _ tyS25 (At.here _) (q 9)) rfl (c (mv hN (q 28)) rfl (cg (cf hB fnOk24 (resource_HasASN_ac r2.1 x164 r165 hr165) (L rfl) (OpdL.cons (q 174) (OpdL.cons (q 175) OpdL.nil))) rfl (c (lb hN 25 _ _ tyS25 (At.here _) (q 10)) rfl (c (mv hN (q 28)) rfl (cg (cf hB fnOk24 (resource_HasASN_ac r4.1 x164 r166 hr166) (L rfl) (OpdL.cons (q 177) (OpdL.cons (q 178) OpdL.nil))) rfl (c (OpJ.assign (L rfl) (q 176)) rfl (c (OpJ.assign (L rfl) (q 179)) rfl cn)))))))) (by kernel_rfl) (by kernel_rfl) ?_
        refine gh [(9, _), (10, _), (12, _), (14, _), (16, _), (28, _), (29, _), (30, _), (168, _), (169, _), (170, _)] [(500, some _), (501, some _), (1009, some _), (1010, some _), (1012, some _), (1014, some _), (1016, some _)] hB rfl rfl (by rfl) ?_
        refine AWp.seq ?_
        refine AWp.cut h (fun m173 : Bool => ([(9, (.ptr 1009 0 [])), (10, (.ptr 1010 0 [])), (12, (.ptr 1012 0 [])), (14, (.ptr 1014 0 [])), (16, (.ptr 1016 0 [])), (168, (qI_1 ([r122, (w64 ((4294967295 : Int) - r123)), (0 : Int), (4294967295 : Int)] : List Int))), (169, (i6 (([r122, (w64 ((4294967295 : Int) - r123)), (0 : Int), (4294967295 : Int)] : List Int).length : Int))), (170, (i6 s124)), (208, (bo m173))] : EL)) (fun m173 : Bool => ([(500, some (.know (globF 0 [50, 52, 133]))), (501, some (.know (globF 1 [71, 134, 135]))), (1009, some (.box 25 (.d (e_api_Resources r2.1)))), (1010, some (.box 25 (.d (e_api_Resources r4.1)))), (1012, some (.box 25 (.d (e_api_Resources r6.1)))), (1014, some (.box 25 (.d (e_api_Resources r7.1)))), (1016, some (.box 25 (.d (e_api_Resources r8.1))))] : OL)) (fun m173 h E' O' hmat => ?_) (fun j174 hjj174 h => ?_)
        ·refine seqQ_n ?_
         refine AWp.ghost hmat ?_
         refine AWp.cond rfl (fun hg175 => ?_) (fun hg175 => ?_)
         ·replace h := ite_t hg175 h
          refine sr (c (OpJ.assign (L rfl) (Opd.bool false)) rfl cn) ?_
          refine gh [(8, _)] [(500, some _), (501, some _)] hB rfl rfl (by rfl) ?_
          refine AWp.ret ?_
          refine blkQ_r ?_
          refine seqQ_r ?_
          obtain rfl := Option.some.inj h
          exact ⟨(fun hc => by cases hc), rfl, (mp [] _ _ hB)⟩
         ·replace h := ite_f hg175 h
          refine AWp.skip ?_
          refine blkQ_n ?_
          refine seqQ_n ?_
          refine rg (c (add6 (L rfl) (q 170) (Opd.int .i64 (1))) rfl (c (mv hN (q 209)) rfl cn)) ?_
          obtain rfl := Option.some.inj h
          exact ⟨rfl, (Mat.trans (mp [] [(9, (.ptr 1009 0 [])), (10, (.ptr 1010 0 [])), (12, (.ptr 1012 0 [])), (14, (.ptr 1014 0 [])), (16, (.ptr 1016 0 [])), (168, (qI_1 ([r122, (w64 ((4294967295 : Int) - r123)), (0 : Int), (4294967295 : Int)] : List Int))), (169, (i6 (([r122, (w64 ((4294967295 : Int) - r123)), (0 : Int), (4294967295 : Int)] : List Int).length : Int))), (170, (i6 (w64 (s124 + (1 : Int)))))] [(500, some (.know (globF 0 [50, 52, 133]))), (501, some (.know (globF 1 [71, 134, 135]))), (1009, some (.box 25 (.d (e_api_Resources r2.1)))), (1010, some (.box 25 (.d (e_api_Resources r4.1)))), (1012, some (.box 25 (.d (e_api_Resources r6.1)))), (1014, some (.box 25 (.d (e_api_Resources r7.1)))), (1016, some (.box 25 (.d (e_api_Resources r8.1))))] hB) (mp [] _ _ hB))⟩
        ·obtain ⟨r176, hr176, h⟩ := bindS h
         rcases Bool.eq_false_or_eq_true (r176 != (r165 || r166)) with hg177 | hg177
         ·replace h := ite_t hg177 h
          refine rg (c (lb hN 25 _ _ tyS25 (At.here _) (q 12)) rfl (c (mv hN (q 28)) rfl (cg (cf hB fnOk24 (resource_HasASN_ac r6.1 x164 r176 hr176) (L rfl) (OpdL.cons (q 180) (OpdL.cons (q 181) OpdL.nil))) rfl (c (mv hN (q 29)) rfl (c (mv hN (q 183)) rfl (c (oq hN 184 (mv hN (q 30)) (OptL.keep (by rfl) OptL.nil) (GuardV.plain _)) rfl (c (OpJ.pickOr rfl (L rfl) (q 184) (q 185)) rfl (c (OpJ.neqB Tryz.underlying4 (L rfl) (q 182) (q 186)) rfl (c (OpJ.val (v' := .d (.bool true)) (by rw [hg177] <;> rfl) (mv hN (q 187))) rfl (cg (sU 188 (L rfl)) rfl (cg (sU 188 (L rfl)) rfl (cg (sU 188 (L rfl)) rfl (cg (sU 188 (L rfl)) rfl (cg (sU 188 (L rfl)) rfl (cg (sV 193 (L rfl)) rfl (cg (sU 188 (L rfl)) rfl (cg (sU 188 (L rfl)) rfl (c (OpJ.pickT (L rfl) (q 188) (Opd.bool true)) rfl (c (mv hN (q 197)) rfl (cg (sU 198 (L rfl)) rfl (cg (sU 198 (L rfl)) rfl (cg (sU 198 (L rfl)) rfl (cg (sU 198 (L rfl)) rfl (cg (sU 198 (L rfl)) rfl (cg (sV 203 (L rfl)) rfl (cg (sV 203 (L rfl)) rfl (cg (sU 198 (L rfl)) rfl (cg (sU 198 (L rfl)) rfl (c (OpJ.pickT (L rfl) (q 198) (Opd.bool true)) rfl cn))))))))))))))))))))))))))))) ?_
          exact hjj174 _ h _ _ (Mat.trans (mp [] [(9, (.ptr 1009 0 [])), (10, (.ptr 1010 0 [])), (12, (.ptr 1012 0 [])), (14, (.ptr 1014 0 [])), (16, (.ptr 1016 0 [])), (168, (qI_1 ([r122, (w64 ((4294967295 : Int) - r123)), (0 : Int), (4294967295 : Int)] : List Int))), (169, (i6 (([r122, (w64 ((4294967295 : Int) - r123)), (0 : Int), (4294967295 : Int)] : List Int).length : Int))), (170, (i6 s124)), (208, (bo true))] [(500, some (.know (globF 0 [50, 52, 133]))), (501, some (.know (globF 1 [71, 134, 135]))), (1009, some (.box 25 (.d (e_api_Resources r2.1)))), (1010, some (.box 25 (.d (e_api_Resources r4.1)))), (1012, some (.box 25 (.d (e_api_Resources r6.1)))), (1014, some (.box 25 (.d (e_api_Resources r7.1)))), (1016, some (.box 25 (.d (e_api_Resources r8.1))))] hB) (mp [] _ _ hB))
         ·replace h := ite_f hg177 h
          obtain ⟨r178, hr178, h⟩ := bindS h
          rcases Bool.eq_false_or_eq_true (r178 != (r165 && r166)) with hg179 | hg179
          ·replace h := ite_t hg179 h
           refine rg (c (lb hN 25 _ _ tyS25 (At.here _) (q 12)) rfl (c (mv hN (q 28)) rfl (cg (cf hB fnOk24 (resource_HasASN_ac r6.1 x164 r176 hr176) (L rfl) (OpdL.cons (q 180) (OpdL.cons (q 181) OpdL.nil))) rfl (c (mv hN (q 29)) rfl (c (mv hN (q 183)) rfl (c (oq hN 184 (mv hN (q 30)) (OptL.keep (by rfl) OptL.nil) (GuardV.plain _)) rfl (c (OpJ.pickOr rfl (L rfl) (q 184) (q 185)) rfl (c (OpJ.neqB Tryz.underlying4 (L rfl) (q 182) (q 186)) rfl (c (OpJ.val (v' := .d (.bool false)) (by rw [hg177] <;> rfl) (mv hN (q 187))) rfl (c (gd 188 (lb hN 25 _ _ tyS25 (At.here _) (q 14))) rfl (c (gd 188 (mv hN (q 28))) rfl (cg (gd 188 (cf hB fnOk24 (resource_HasASN_ac r7.1 x164 r178 hr178) (L rfl) (OpdL.cons (q 189) (OpdL.cons (q 190) OpdL.nil)))) rfl (c (gd 188 (mv hN (q 29))) rfl (c (gd 188 (mv hN (q 192))) rfl (c (oq hN 193 (mv hN (q 30)) (OptL.keep (by rfl) OptL.nil) (GuardV.plain _)) rfl (c (gd 188 (OpJ.pickAnd rfl (L rfl) (q 193) (q 194))) rfl (c (gd 188 (OpJ.neqB Tryz.underlying4 (L rfl) (q 191) (q 195))) rfl (c (OpJ.pickF (L rfl) (q 188) (q 196)) rfl (c (OpJ.val (v' := .d (.bool true)) (by rw [hg179] <;> rfl) (mv hN (q 197))) rfl (cg (sU 198 (L rfl)) rfl (cg (sU 198 (L rfl)) rfl (cg (sU 198 (L rfl)) rfl (cg (sU 198 (L rfl)) rfl (cg (sU 198 (L rfl)) rfl (cg (sV 203 (L rfl)) rfl (cg (sV 203 (L rfl)) rfl (cg (sU 198 (L rfl)) rfl (cg (sU 198 (L rfl)) rfl (c (OpJ.pickT (L rfl) (q 198) (Opd.bool true)) rfl cn))))))))))))))))))))))))))))) ?_
           exact hjj174 _ h _ _ (Mat.trans (mp [] [(9, (.ptr 1009 0 [])), (10, (.ptr 1010 0 [])), (12, (.ptr 1012 0 [])), (14, (.ptr 1014 0 [])), (16, (.ptr 1016 0 [])), (168, (qI_1 ([r122, (w64 ((4294967295 : Int) - r123)), (0 : Int), (4294967295 : Int)] : List Int))), (169, (i6 (([r122, (w64 ((4294967295 : Int) - r123)), (0 : Int), (4294967295 : Int)] : List Int).length : Int))), (170, (i6 s124)), (208, (bo true))] [(500, some (.know (globF 0 [50, 52, 133]))), (501, some (.know (globF 1 [71, 134, 135]))), (1009, some (.box 25 (.d (e_api_Resources r2.1)))), (1010, some (.box 25 (.d (e_api_Resources r4.1)))), (1012, some (.box 25 (.d (e_api_Resources r6.1)))), (1014, some (.box 25 (.d (e_api_Resources r7.1)))), (1016, some (.box 25 (.d (e_api_Resources r8.1))))] hB) (mp [] _ _ hB))
          ·replace h := ite_f hg179 h
           obtain ⟨r180, hr180, h⟩ := bindS h
           refine rg (c (lb hN 25 _ _ tyS25 (At.here _) (q 12)) rfl (c (mv hN (q 28)) rfl (cg (cf hB fnOk24 (resource_HasASN_ac r6.1 x164 r176 hr176) (L rfl) (OpdL.cons (q 180) (OpdL.cons (q 181) OpdL.nil))) rfl (c (mv hN (q 29)) rfl (c (mv hN (q 183)) rfl (c (oq hN 184 (mv hN (q 30)) (OptL.keep (by rfl) OptL.nil) (GuardV.plain _)) rfl (c (OpJ.pickOr rfl (L rfl) (q 184) (q 185)) rfl (c (OpJ.neqB Tryz.underlying4 (L rfl) (q 182) (q 186)) rfl (c (OpJ.val (v' := .d (.bool false)) (by rw [hg177] <;> rfl) (mv hN (q 187))) rfl (c (gd 188 (lb hN 25 _ _ tyS25 (At.here _) (q 14))) rfl (c (gd 188 (mv hN (q 28))) rfl (cg (gd 188 (cf hB fnOk24 (resource_HasASN_ac r7.1 x164 r178 hr178) (L rfl) (OpdL.cons (q 189) (OpdL.cons (q 190) OpdL.nil)))) rfl (c (gd 188 (mv hN (q 29))) rfl (c (gd 188 (mv hN (q 192))) rfl (c (oq hN 193 (mv hN (q 30)) (OptL.keep (by rfl) OptL.nil) (GuardV.plain _)) rfl (c (gd 188 (OpJ.pickAnd rfl (L rfl) (q 193) (q 194))) rfl (c (gd 188 (OpJ.neqB Tryz.underlying4 (L rfl) (q 191) (q 195))) rfl (c (OpJ.pickF (L rfl) (q 188) (q 196)) rfl (c (OpJ.val (v' := .d (.bool false)) (by rw [hg179] <;> rfl) (mv hN (q 197))) rfl (c (gd 198 (lb hN 25 _ _ tyS25 (At.here _) (q 16))) rfl (c (gd 198 (mv hN (q 28))) rfl (cg (gd 198 (cf hB fnOk24 (resource_HasASN_ac r8.1 x164 r180 hr180) (L rfl) (OpdL.cons (q 199) (OpdL.cons (q 200) OpdL.nil)))) rfl (c (gd 198 (mv hN (q 29))) rfl (c (gd 198 (mv hN (q 202))) rfl (c (oq hN 203 (mv hN (q 30)) (OptL.keep (by rfl) OptL.nil) (GuardV.plain _)) rfl (c (oq hN 203 (OpJ.not (L rfl) (q 204)) (OptL.opt OptL.nil) (GuardV.plain _)) rfl (c (gd 198 (OpJ.pickAnd rfl (L rfl) (q 203) (q 205))) rfl (c (gd 198 (OpJ.neqB Tryz.underlying4 (L rfl) (q 201) (q 206))) rfl (c (OpJ.pickF (L rfl) (q 198) (q 207)) rfl cn))))))))))))))))))))))))))))) ?_
           exact hjj174 _ h _ _ (Mat.trans (mp [] [(9, (.ptr 1009 0 [])), (10, (.ptr 1010 0 [])), (12, (.ptr 1012 0 [])), (14, (.ptr 1014 0 [])), (16, (.ptr 1016 0 [])), (168, (qI_1 ([r122, (w64 ((4294967295 : Int) - r123)), (0 : Int), (4294967295 : Int)] : List Int))), (169, (i6 (([r122, (w64 ((4294967295 : Int) - r123)), (0 : Int), (4294967295 : Int)] : List Int).length : Int))), (170, (i6 s124)), (208, (bo (r180 != (r165 && (!r166)))))] [(500, some (.know (globF 0 [50, 52, 133]))), (501, some (.know (globF 1 [71, 134, 135]))), (1009, some (.box 25 (.d (e_api_Resources r2.1)))), (1010, some (.box 25 (.d (e_api_Resources r4.1)))), (1012, some (.box 25 (.d (e_api_Resources r6.1)))), (1014, some (.box 25 (.d (e_api_Resources r7.1)))), (1016, some (.box 25 (.d (e_api_Resources r8.1))))] hB) (mp [] _ _ hB))
       ·replace h := ite_f hg163 h
        refine AWp.exit ?_
        refine seqQ_e ?_
        obtain rfl := Option.some.inj h
        exact ⟨(fun hc => by cases hc), rfl, (mp [] _ _ hB)⟩
      ·rcases x181 with _ | _
       ·obtain ⟨rfl, hmat⟩ := hR
        refine blkQ_r ?_
        refine seqQ_r ?_
        obtain rfl := Option.some.inj h
        exact ⟨.inl rfl, _, _, (Mat.trans hmat (mp [] [(8, (bo false))] [(500, some (.know (globF 0 [50, 52, 133]))), (501, some (.know (globF 1 [71, 134, 135])))] hB)), [(bo false)], (Res.tmp (by rfl) (by rfl) Res.nil), rfl, by rfl, by rfl, by rfl⟩
       ·obtain ⟨rfl, hmat⟩ := hR
        refine blkQ_hit ?_
        refine seqQ_n ?_
        refine AWp.ghost hmat ?_
        refine AWp.seq ?_
        obtain ⟨r183, hr183, h⟩ := bindS h
        refine AWp.region (oc (lb hN 25 (.d (e_api_Resources r7.1)) (.d (e_api_Resources r7.1)) tyS25 (At.here _) (ot 14 (.ptr 1014 0 [])))
         (oc (lb hN 25 (.d (e_api_Resources r8.1)) (.d (e_api_Resources r8.1)) tyS25 (At.here _) (ot 16 (.ptr 1016 0 [])))
         (oc (OpJ.callFn hB fnOk10 (resource_Union_ac r7.1 r8.1 r183 hr183) [(500, 500), (501, 501)] (by kernel_rfl) (L rfl) (by kernel_rfl) (OpdL.cons (ot 211 (.d (e_api_Resources r7.1))) (OpdL.cons (ot 212 (.d (e_api_Resources r8.1))) OpdL.nil)))
         (oc (mv hN (ot 213 (.tup [(.d (e_api_Resources r183.1)), (i6 r183.2)])))
         (oc (OpJ.extract (v := (.d (e_api_Resources r183.1))) (by rfl) rfl (L rfl) (ot 210 (.tup [(.d (e_api_Resources r183.1)), (i6 r183.2)])))
         (oc (OpJ.extract (v := (i6 r183.2)) (by rfl) rfl (L rfl) (ot 210 (.tup [(.d (e_api_Resources r183.1)), (i6 r183.2)])))
         (oc (OpJ.alloc hB tyZ25 (nm := 1031) (by decide) (L rfl))
         (oc (OpJ.storeB (bt := 25) (c := (.st [.nils, .nils])) (v := (.d (e_api_Resources r183.1))) (c' := (.d (e_api_Resources r183.1))) tyS25 (SetAt.here _ _) (by rfl) (by rfl) (by simp) rfl (ot 31 (.ptr 1031 0 [])) (ot 214 (.d (e_api_Resources r183.1))))
         (oc (OpJ.assign (L rfl) (ot 215 (i6 r183.2)))
         (OpJs.nil)))))))))) (by rfl) (by rfl) ?_
        refine seqQ_n ?_
        refine AWp.ghost (mp [] [(9, (.ptr 1009 0 [])), (10, (.ptr 1010 0 [])), (12, (.ptr 1012 0 [])), (14, (.ptr 1014 0 [])), (31, (.ptr 1031 0 [])), (32, (i6 r183.2))] [(500, some (.know (globF 0 [50, 52, 133]))), (501, some (.know (globF 1 [71, 134, 135]))), (1009, some (.box 25 (.d (e_api_Resources r2.1)))), (1010, some (.box 25 (.d (e_api_Resources r4.1)))), (1012, some (.box 25 (.d (e_api_Resources r6.1)))), (1014, some (.box 25 (.d (e_api_Resources r7.1)))), (1031, some (.box 25 (.d (e_api_Resources r183.1))))] hB) ?_
        refine AWp.seq ?_
        refine AWp.cut h (fun m195 : Bool => ([(8, (bo m195))] : EL)) (fun m195 : Bool => ([(500, some (.know (globF 0 [50, 52, 133]))), (501, some (.know (globF 1 [71, 134, 135])))] : OL)) (fun m195 h E' O' hmat => ?_) (fun j196 hjj196 h => ?_)
        ·refine seqQ_n ?_
         refine AWp.ghost hmat ?_
         refine AWp.ret ?_
         obtain rfl := Option.some.inj h
         exact ⟨.inl rfl, _, _, (kp [(8, _)] [(500, some _), (501, some _)] hB rfl rfl (by rfl)), [(bo m195)], (Res.tmp (by rfl) (by rfl) Res.nil), rfl, by rfl, by rfl, by rfl⟩
        ·rcases Bool.eq_false_or_eq_true (r183.2 == (0 : Int)) with hg197 | hg197
         ·replace h := ite_t hg197 h
          obtain ⟨r198, hr198, h⟩ := bindS h
          rcases Bool.eq_false_or_eq_true r198 with hg199 | hg199
          ·replace h := ite_t hg199 h
           obtain ⟨r200, hr200, h⟩ := bindS h
           rcases Bool.eq_false_or_eq_true r200 with hg201 | hg201
           ·replace h := ite_t hg201 h
            obtain ⟨r202, hr202, h⟩ := bindS h
            rcases Bool.eq_false_or_eq_true r202 with hg203 | hg203
            ·replace h := ite_t hg203 h
             obtain ⟨r204, hr204, h⟩ := bindS h
             obtain ⟨r205, hr205, h⟩ := bindS h
             rcases Bool.eq_false_or_eq_true (r204 == r205) with hg206 | hg206
             ·replace h := ite_t hg206 h
              obtain ⟨r207, hr207, h⟩ := bindS h
              refine AWp.draws (by kernel_rfl) (oc (mv hN (ot 32 (i6 r183.2)))
               (oc (OpJ.eqlI (L rfl) (ot 216 (i6 r183.2)) (Opd.int .i64 (0)))
               (oc (OpJ.val (v' := .d (.bool true)) (by rw [hg197] <;> rfl) (mv hN (ot 217 (bo (r183.2 == (0 : Int))))))
               (oc (gd 218 (lb hN 25 (.d (e_api_Resources r183.1)) (.d (e_api_Resources r183.1)) tyS25 (At.here _) (ot 31 (.ptr 1031 0 []))))
               (oc (gd 218 (lb hN 25 (.d (e_api_Resources r2.1)) (.d (e_api_Resources r2.1)) tyS25 (At.here _) (ot 9 (.ptr 1009 0 []))))
               (oc (gd 218 (cf hB fnOk16 (exchangepointref21_Same_ac r183.1 r2.1 r198 hr198) (L rfl) (OpdL.cons (ot 219 (.d (e_api_Resources r183.1))) (OpdL.cons (ot 220 (.d (e_api_Resources r2.1))) OpdL.nil))))
               (oc (OpJ.pickT (L rfl) (ot 218 (bo true)) (ot 221 (bo r198)))
               (oc (OpJ.val (v' := .d (.bool true)) (by rw [hg199] <;> rfl) (mv hN (ot 222 (bo r198))))
               (oc (gd 223 (lb hN 25 (.d (e_api_Resources r6.1)) (.d (e_api_Resources r6.1)) tyS25 (At.here _) (ot 12 (.ptr 1012 0 []))))
               (oc (gd 223 (lb hN 25 (.d (e_api_Resources r2.1)) (.d (e_api_Resources r2.1)) tyS25 (At.here _) (ot 9 (.ptr 1009 0 []))))
               (oc (gd 223 (OpJ.callFn hB fnOk17 (resource_Covers_ac r6.1 r2.1 r200 hr200) [(500, 500), (501, 501)] (by kernel_rfl) (L rfl) (by kernel_rfl) (OpdL.cons (ot 224 (.d (e_api_Resources r6.1))) (OpdL.cons (ot 225 (.d (e_api_Resources r2.1))) OpdL.nil))))
               (oc (OpJ.pickT (L rfl) (ot 223 (bo true)) (ot 226 (bo r200)))
               (oc (OpJ.val (v' := .d (.bool true)) (by rw [hg201] <;> rfl) (mv hN (ot 227 (bo r200))))
               (oc (gd 228 (lb hN 25 (.d (e_api_Resources r2.1)) (.d (e_api_Resources r2.1)) tyS25 (At.here _) (ot 9 (.ptr 1009 0 []))))
               (oc (gd 228 (lb hN 25 (.d (e_api_Resources r7.1)) (.d (e_api_Resources r7.1)) tyS25 (At.here _) (ot 14 (.ptr 1014 0 []))))
               (oc (gd 228 (OpJ.callFn hB fnOk17 (resource_Covers_ac r2.1 r7.1 r202 hr202) [(500, 500), (501, 501)] (by kernel_rfl) (L rfl) (by kernel_rfl) (OpdL.cons (ot 229 (.d (e_api_Resources r2.1))) (OpdL.cons (ot 230 (.d (e_api_Resources r7.1))) OpdL.nil))))
               (oc (OpJ.pickT (L rfl) (ot 228 (bo true)) (ot 231 (bo r202)))
               (oc (OpJ.val (v' := .d (.bool true)) (by rw [hg203] <;> rfl) (mv hN (ot 232 (bo r202))))
               (oc (gd 233 (lb hN 25 (.d (e_api_Resources r2.1)) (.d (e_api_Resources r2.1)) tyS25 (At.here _) (ot 9 (.ptr 1009 0 []))))
               (oc (gd 233 (lb hN 25 (.d (e_api_Resources r4.1)) (.d (e_api_Resources r4.1)) tyS25 (At.here _) (ot 10 (.ptr 1010 0 []))))
               (oc (gd 233 (OpJ.callFn hB fnOk17 (resource_Covers_ac r2.1 r4.1 r204 hr204) [(500, 500), (501, 501)] (by kernel_rfl) (L rfl) (by kernel_rfl) (OpdL.cons (ot 234 (.d (e_api_Resources r2.1))) (OpdL.cons (ot 235 (.d (e_api_Resources r4.1))) OpdL.nil))))
               (oc (gd 233 (lb hN 25 (.d (e_api_Resources r6.1)) (.d (e_api_Resources r6.1)) tyS25 (At.here _) (ot 12 (.ptr 1012 0 []))))
               (oc (gd 233 (lb hN 25 (.d (e_api_Resources r2.1)) (.d (e_api_Resources r2.1)) tyS25 (At.here _) (ot 9 (.ptr 1009 0 []))))
               (oc (gd 233 (cf hB fnOk16 (exchangepointref21_Same_ac r6.1 r2.1 r205 hr205) (L rfl) (OpdL.cons (ot 237 (.d (e_api_Resources r6.1))) (OpdL.cons (ot 238 (.d (e_api_Resources r2.1))) OpdL.nil))))
               (oc (gd 233 (OpJ.eqlB Tryz.underlying4 (L rfl) (ot 236 (bo r204)) (ot 239 (bo r205))))
               (oc (OpJ.pickT (L rfl) (ot 233 (bo true)) (ot 240 (bo (r204 == r205))))
               (oc (OpJ.val (v' := .d (.bool true)) (by rw [hg206] <;> rfl) (mv hN (ot 241 (bo (r204 == r205)))))
               (oc (gd 242 (OpJ.callFn hB fnOk6 (exchangepointlaw21_awake_ac  r207 hr207) [(500, 500), (501, 501)] (by kernel_rfl) (L rfl) (by kernel_rfl) OpdL.nil))
               (oc (OpJ.pickT (L rfl) (ot 242 (bo true)) (ot 243 (bo r207)))
               (oc (OpJ.assign (L rfl) (ot 244 (bo r207)))
               (OpJs.nil))))))))))))))))))))))))))))))) (by kernel_rfl) (by rfl) (by rfl) ?_
              exact hjj196 _ h _ _ (Mat.trans (mp [] [(8, (bo r207))] [(500, some (.know (globF 0 [50, 52, 133]))), (501, some (.know (globF 1 [71, 134, 135])))] hB) (mp [] _ _ hB))
             ·replace h := ite_f hg206 h
              refine AWp.draws (by kernel_rfl) (oc (mv hN (ot 32 (i6 r183.2)))
               (oc (OpJ.eqlI (L rfl) (ot 216 (i6 r183.2)) (Opd.int .i64 (0)))
               (oc (OpJ.val (v' := .d (.bool true)) (by rw [hg197] <;> rfl) (mv hN (ot 217 (bo (r183.2 == (0 : Int))))))
               (oc (gd 218 (lb hN 25 (.d (e_api_Resources r183.1)) (.d (e_api_Resources r183.1)) tyS25 (At.here _) (ot 31 (.ptr 1031 0 []))))
               (oc (gd 218 (lb hN 25 (.d (e_api_Resources r2.1)) (.d (e_api_Resources r2.1)) tyS25 (At.here _) (ot 9 (.ptr 1009 0 []))))
               (oc (gd 218 (cf hB fnOk16 (exchangepointref21_Same_ac r183.1 r2.1 r198 hr198) (L rfl) (OpdL.cons (ot 219 (.d (e_api_Resources r183.1))) (OpdL.cons (ot 220 (.d (e_api_Resources r2.1))) OpdL.nil))))
               (oc (OpJ.pickT (L rfl) (ot 218 (bo true)) (ot 221 (bo r198)))
               (oc (OpJ.val (v' := .d (.bool true)) (by rw [hg199] <;> rfl) (mv hN (ot 222 (bo r198))))
               (oc (gd 223 (lb hN 25 (.d (e_api_Resources r6.1)) (.d (e_api_Resources r6.1)) tyS25 (At.here _) (ot 12 (.ptr 1012 0 []))))
               (oc (gd 223 (lb hN 25 (.d (e_api_Resources r2.1)) (.d (e_api_Resources r2.1)) tyS25 (At.here _) (ot 9 (.ptr 1009 0 []))))
               (oc (gd 223 (OpJ.callFn hB fnOk17 (resource_Covers_ac r6.1 r2.1 r200 hr200) [(500, 500), (501, 501)] (by kernel_rfl) (L rfl) (by kernel_rfl) (OpdL.cons (ot 224 (.d (e_api_Resources r6.1))) (OpdL.cons (ot 225 (.d (e_api_Resources r2.1))) OpdL.nil))))
               (oc (OpJ.pickT (L rfl) (ot 223 (bo true)) (ot 226 (bo r200)))
               (oc (OpJ.val (v' := .d (.bool true)) (by rw [hg201] <;> rfl) (mv hN (ot 227 (bo r200))))
               (oc (gd 228 (lb hN 25 (.d (e_api_Resources r2.1)) (.d (e_api_Resources r2.1)) tyS25 (At.here _) (ot 9 (.ptr 1009 0 []))))
               (oc (gd 228 (lb hN 25 (.d (e_api_Resources r7.1)) (.d (e_api_Resources r7.1)) tyS25 (At.here _) (ot 14 (.ptr 1014 0 []))))
               (oc (gd 228 (OpJ.callFn hB fnOk17 (resource_Covers_ac r2.1 r7.1 r202 hr202) [(500, 500), (501, 501)] (by kernel_rfl) (L rfl) (by kernel_rfl) (OpdL.cons (ot 229 (.d (e_api_Resources r2.1))) (OpdL.cons (ot 230 (.d (e_api_Resources r7.1))) OpdL.nil))))
               (oc (OpJ.pickT (L rfl) (ot 228 (bo true)) (ot 231 (bo r202)))
               (oc (OpJ.val (v' := .d (.bool true)) (by rw [hg203] <;> rfl) (mv hN (ot 232 (bo r202))))
               (oc (gd 233 (lb hN 25 (.d (e_api_Resources r2.1)) (.d (e_api_Resources r2.1)) tyS25 (At.here _) (ot 9 (.ptr 1009 0 []))))
               (oc (gd 233 (lb hN 25 (.d (e_api_Resources r4.1)) (.d (e_api_Resources r4.1)) tyS25 (At.here _) (ot 10 (.ptr 1010 0 []))))
               (oc (gd 233 (OpJ.callFn hB fnOk17 (resource_Covers_ac r2.1 r4.1 r204 hr204) [(500, 500), (501, 501)] (by kernel_rfl) (L rfl) (by kernel_rfl) (OpdL.cons (ot 234 (.d (e_api_Resources r2.1))) (OpdL.cons (ot 235 (.d (e_api_Resources r4.1))) OpdL.nil))))
               (oc (gd 233 (lb hN 25 (.d (e_api_Resources r6.1)) (.d (e_api_Resources r6.1)) tyS25 (At.here _) (ot 12 (.ptr 1012 0 []))))
               (oc (gd 233 (lb hN 25 (.d (e_api_Resources r2.1)) (.d (e_api_Resources r2.1)) tyS25 (At.here _) (ot 9 (.ptr 1009 0 []))))
               (oc (gd 233 (cf hB fnOk16 (exchangepointref21_Same_ac r6.1 r2.1 r205 hr205) (L rfl) (OpdL.cons (ot 237 (.d (e_api_Resources r6.1))) (OpdL.cons (ot 238 (.d (e_api_Resources r2.1))) OpdL.nil))))
               (oc (gd 233 (OpJ.eqlB Tryz.underlying4 (L rfl) (ot 236 (bo r204)) (ot 239 (bo r205))))
               (oc (OpJ.pickT (L rfl) (ot 233 (bo true)) (ot 240 (bo (r204 == r205))))
               (oc (OpJ.val (v' := .d (.bool false)) (by rw [hg206] <;> rfl) (mv hN (ot 241 (bo (r204 == r205)))))
               (oc (sU 242 (L rfl))
               (oc (OpJ.pickF (L rfl) (ot 242 (bo false)) (Opd.bool false))
               (oc (OpJ.assign (L rfl) (ot 244 (bo false)))
               (OpJs.nil))))))))))))))))))))))))))))))) (by kernel_rfl) (by rfl) (by rfl) ?_
              exact hjj196 _ h _ _ (Mat.trans (mp [] [(8, (bo false))] [(500, some (.know (globF 0 [50, 52, 133]))), (501, some (.know (globF 1 [71, 134, 135])))] hB) (mp [] _ _ hB))
            ·replace h := ite_f hg203 h
             refine AWp.draws (by kernel_rfl) (oc (mv hN (ot 32 (i6 r183.2)))
              (oc (OpJ.eqlI (L rfl) (ot 216 (i6 r183.2)) (Opd.int .i64 (0)))
              (oc (OpJ.val (v' := .d (.bool true)) (by rw [hg197] <;> rfl) (mv hN (ot 217 (bo (r183.2 == (0 : Int))))))
              (oc (gd 218 (lb hN 25 (.d (e_api_Resources r183.1)) (.d (e_api_Resources r183.1)) tyS25 (At.here _) (ot 31 (.ptr 1031 0 []))))
              (oc (gd 218 (lb hN 25 (.d (e_api_Resources r2.1)) (.d (e_api_Resources r2.1)) tyS25 (At.here _) (ot 9 (.ptr 1009 0 []))))
              (oc (gd 218 (cf hB fnOk16 (exchangepointref21_Same_ac r183.1 r2.1 r198 hr198) (L rfl) (OpdL.cons (ot 219 (.d (e_api_Resources r183.1))) (OpdL.cons (ot 220 (.d (e_api_Resources r2.1))) OpdL.nil))))
              (oc (OpJ.pickT (L rfl) (ot 218 (bo true)) (ot 221 (bo r198)))
              (oc (OpJ.val (v' := .d (.bool true)) (by rw [hg199] <;> rfl) (mv hN (ot 222 (bo r198))))
              (oc (gd 223 (lb hN 25 (.d (e_api_Resources r6.1)) (.d (e_api_Resources r6.1)) tyS25 (At.here _) (ot 12 (.ptr 1012 0 []))))
              (oc (gd 223 (lb hN 25 (.d (e_api_Resources r2.1)) (.d (e_api_Resources r2.1)) tyS25 (At.here _) (ot 9 (.ptr 1009 0 []))))
              (oc (gd 223 (OpJ.callFn hB fnOk17 (resource_Covers_ac r6.1 r2.1 r200 hr200) [(500, 500), (501, 501)] (by kernel_rfl) (L rfl) (by kernel_rfl) (OpdL.cons (ot 224 (.d (e_api_Resources r6.1))) (OpdL.cons (ot 225 (.d (e_api_Resources r2.1))) OpdL.nil))))
              (oc (OpJ.pickT (L rfl) (ot 223 (bo true)) (ot 226 (bo r200)))
              (oc (OpJ.val (v' := .d (.bool true)) (by rw [hg201] <;> rfl) (mv hN (ot 227 (bo r200))))
              (oc (gd 228 (lb hN 25 (.d (e_api_Resources r2.1)) (.d (e_api_Resources r2.1)) tyS25 (At.here _) (ot 9 (.ptr 1009 0 []))))
              (oc (gd 228 (lb hN 25 (.d (e_api_Resources r7.1)) (.d (e_api_Resources r7.1)) tyS25 (At.here _) (ot 14 (.ptr 1014 0 []))))
              (oc (gd 228 (OpJ.callFn hB fnOk17 (resource_Covers_ac r2.1 r7.1 r202 hr202) [(500, 500), (501, 501)] (by kernel_rfl) (L rfl) (by kernel_rfl) (OpdL.cons (ot 229 (.d (e_api_Resources r2.1))) (OpdL.cons (ot 230 (.d (e_api_Resources r7.1))) OpdL.nil))))
              (oc (OpJ.pickT (L rfl) (ot 228 (bo true)) (ot 231 (bo r202)))
              (oc (OpJ.val (v' := .d (.bool false)) (by rw [hg203] <;> rfl) (mv hN (ot 232 (bo r202))))
              (oc (sU 233 (L rfl))
              (oc (sU 233 (L rfl))
              (oc (sU 233 (L rfl))
              (oc (sU 233 (L rfl))
              (oc (sU 233 (L rfl))
              (oc (sU 233 (L rfl))
              (oc (sU 233 (L rfl))
              (oc (OpJ.pickF (L rfl) (ot 233 (bo false)) (Opd.bool false))
              (oc (mv hN (ot 241 (bo false)))
              (oc (sU 242 (L rfl))
              (oc (OpJ.pickF (L rfl) (ot 242 (bo false)) (Opd.bool false))
              (oc (OpJ.assign (L rfl) (ot 244 (bo false)))
              (OpJs.nil))))))))))))))))))))))))))))))) (by kernel_rfl) (by rfl) (by rfl) ?_
             exact hjj196 _ h _ _ (Mat.trans (mp [] [(8, (bo false))] [(500, some (.know (globF 0 [50, 52, 133]))), (501, some (.know (globF 1 [71, 134, 135])))] hB) (mp [] _ _ hB))
           ·replace h := ite_f hg201 h
            refine AWp.draws (by kernel_rfl) (oc (mv hN (ot 32 (i6 r183.2)))
             (oc (OpJ.eqlI (L rfl) (ot 216 (i6 r183.2)) (Opd.int .i64 (0)))
             (oc (OpJ.val (v' := .d (.bool true)) (by rw [hg197] <;> rfl) (mv hN (ot 217 (bo (r183.2 == (0 : Int))))))
             (oc (gd 218 (lb hN 25 (.d (e_api_Resources r183.1)) (.d (e_api_Resources r183.1)) tyS25 (At.here _) (ot 31 (.ptr 1031 0 []))))
             (oc (gd 218 (lb hN 25 (.d (e_api_Resources r2.1)) (.d (e_api_Resources r2.1)) tyS25 (At.here _) (ot 9 (.ptr 1009 0 []))))
             (oc (gd 218 (cf hB fnOk16 (exchangepointref21_Same_ac r183.1 r2.1 r198 hr198) (L rfl) (OpdL.cons (ot 219 (.d (e_api_Resources r183.1))) (OpdL.cons (ot 220 (.d (e_api_Resources r2.1))) OpdL.nil))))
             (oc (OpJ.pickT (L rfl) (ot 218 (bo true)) (ot 221 (bo r198)))
             (oc (OpJ.val (v' := .d (.bool true)) (by rw [hg199] <;> rfl) (mv hN (ot 222 (bo r198))))
             (oc (gd 223 (lb hN 25 (.d (e_api_Resources r6.1)) (.d (e_api_Resources r6.1)) tyS25 (At.here _) (ot 12 (.ptr 1012 0 []))))
             (oc (gd 223 (lb hN 25 (.d (e_api_Resources r2.1)) (.d (e_api_Resources r2.1)) tyS25 (At.here _) (ot 9 (.ptr 1009 0 []))))
             (oc (gd 223 (OpJ.callFn hB fnOk17 (resource_Covers_ac r6.1 r2.1 r200 hr200) [(500, 500), (501, 501)] (by kernel_rfl) (L rfl) (by kernel_rfl) (OpdL.cons (ot 224 (.d (e_api_Resources r6.1))) (OpdL.cons (ot 225 (.d (e_api_Resources r2.1))) OpdL.nil))))
             (oc (OpJ.pickT (L rfl) (ot 223 (bo true)) (ot 226 (bo r200)))
             (oc (OpJ.val (v' := .d (.bool false)) (by rw [hg201] <;> rfl) (mv hN (ot 227 (bo r200))))
             (oc (sU 228 (L rfl))
             (oc (sU 228 (L rfl))
             (oc (sU 228 (L rfl))
             (oc (OpJ.pickF (L rfl) (ot 228 (bo false)) (Opd.bool false))
             (oc (mv hN (ot 232 (bo false)))
             (oc (sU 233 (L rfl))
             (oc (sU 233 (L rfl))
             (oc (sU 233 (L rfl))
             (oc (sU 233 (L rfl))
             (oc (sU 233 (L rfl))
             (oc (sU 233 (L rfl))
             (oc (sU 233 (L rfl))
             (oc (OpJ.pickF (L rfl) (ot 233 (bo false)) (Opd.bool false))
             (oc (mv hN (ot 241 (bo false)))
             (oc (sU 242 (L rfl))
             (oc (OpJ.pickF (L rfl) (ot 242 (bo false)) (Opd.bool false))
             (oc (OpJ.assign (L rfl) (ot 244 (bo false)))
             (OpJs.nil))))))))))))))))))))))))))))))) (by kernel_rfl) (by rfl) (by rfl) ?_
            exact hjj196 _ h _ _ (Mat.trans (mp [] [(8, (bo false))] [(500, some (.know (globF 0 [50, 52, 133]))), (501, some (.know (globF 1 [71, 134, 135])))] hB) (mp [] _ _ hB))
          ·replace h := ite_f hg199 h
           refine dr (c (mv hN (q 32)) rfl (c (OpJ.eqlI (L rfl) (q 216) (Opd.int .i64 (0))) rfl (c (OpJ.val (v' := .d (.bool true)) (by rw [hg197] <;> rfl) (mv hN (q 217))) rfl (c (gd 218 (lb hN 25 _ _ tyS25 (At.here _) (q 31))) rfl (c (gd 218 (lb hN 25 _ _ tyS25 (At.here _) (q 9))) rfl (cg (gd 218 (cf hB fnOk16 (exchangepointref21_Same_ac r183.1 r2.1 r198 hr198) (L rfl) (OpdL.cons (q 219) (OpdL.cons (q 220) OpdL.nil)))) rfl (c (OpJ.pickT (L rfl) (q 218) (q 221)) rfl (c (OpJ.val (v' := .d (.bool false)) (by rw [hg199] <;> rfl) (mv hN (q 222))) rfl (cg (sU 223 (L rfl)) rfl (cg (sU 223 (L rfl)) rfl (cg (sU 223 (L rfl)) rfl (c (OpJ.pickF (L rfl) (q 223) (Opd.bool false)) rfl (c (mv hN (q 227)) rfl (cg (sU 228 (L rfl)) rfl (cg (sU 228 (L rfl)) rfl (cg (sU 228 (L rfl)) rfl (c (OpJ.pickF (L rfl) (q 228) (Opd.bool false)) rfl (c (mv hN (q 232)) rfl (cg (sU 233 (L rfl)) rfl (cg (sU 233 (L rfl)) rfl (cg (sU 233 (L rfl)) rfl (cg (sU 233 (L rfl)) rfl (cg (sU 233 (L rfl)) rfl (cg (sU 233 (L rfl)) rfl (cg (sU 233 (L rfl)) rfl (c (OpJ.pickF (L rfl) (q 233) (Opd.bool false)) rfl (c (mv hN (q 241)) rfl (cg (sU 242 (L rfl)) rfl (c (OpJ.pickF (L rfl) (q 242) (Opd.bool false)) rfl (c (OpJ.assign (L rfl) (q 244)) rfl cn)))))))))))))))))))))))))))))) (by kernel_rfl) (by kernel_rfl) ?_
           exact hjj196 _ h _ _ (Mat.trans (mp [] [(8, (bo false))] [(500, some (.know (globF 0 [50, 52, 133]))), (501, some (.know (globF 1 [71, 134, 135])))] hB) (mp [] _ _ hB))
         ·replace h := ite_f hg197 h
          refine dr (c (mv hN (q 32)) rfl (c (OpJ.eqlI (L rfl) (q 216) (Opd.int .i64 (0))) rfl (c (OpJ.val (v' := .d (.bool false)) (by rw [hg197] <;> rfl) (mv hN (q 217))) rfl (cg (sU 218 (L rfl)) rfl (cg (sU 218 (L rfl)) rfl (cg (sU 218 (L rfl)) rfl (c (OpJ.pickF (L rfl) (q 218) (Opd.bool false)) rfl (c (mv hN (q 222)) rfl (cg (sU 223 (L rfl)) rfl (cg (sU 223 (L rfl)) rfl (cg (sU 223 (L rfl)) rfl (c (OpJ.pickF (L rfl) (q 223) (Opd.bool false)) rfl (c (mv hN (q 227)) rfl (cg (sU 228 (L rfl)) rfl (cg (sU 228 (L rfl)) rfl (cg (sU 228 (L rfl)) rfl (c (OpJ.pickF (L rfl) (q 228) (Opd.bool false)) rfl (c (mv hN (q 232)) rfl (cg (sU 233 (L rfl)) rfl (cg (sU 233 (L rfl)) rfl (cg (sU 233 (L rfl)) rfl (cg (sU 233 (L rfl)) rfl (cg (sU 233 (L rfl)) rfl (cg (sU 233 (L rfl)) rfl (cg (sU 233 (L rfl)) rfl (c (OpJ.pickF (L rfl) (q 233) (Opd.bool false)) rfl (c (mv hN (q 241)) rfl (cg (sU 242 (L rfl)) rfl (c (OpJ.pickF (L rfl) (q 242) (Opd.bool false)) rfl (c (OpJ.assign (L rfl) (q 244)) rfl cn)))))))))))))))))))))))))))))) (by kernel_rfl) (by kernel_rfl) ?_
          exact hjj196 _ h _ _ (Mat.trans (mp [] [(8, (bo false))] [(500, some (.know (globF 0 [50, 52, 133]))), (501, some (.know (globF 1 [71, 134, 135])))] hB) (mp [] _ _ hB))
 ·rcases Bool.eq_false_or_eq_true (((r6.2 != (0 : Int)) || (r7.2 != (0 : Int))) || (r8.2 != (0 : Int))) with hg208 | hg208
  ·replace h := ite_t hg208 h
   refine rg (c (mv hN (q 13)) rfl (c (OpJ.neqI (L rfl) (q 59) (Opd.int .i64 (0))) rfl (c (mv hN (q 60)) rfl (c (oq hN 61 (mv hN (q 15)) (OptL.keep (by rfl) OptL.nil) (GuardV.plain _)) rfl (c (oq hN 61 (OpJ.neqI (L rfl) (q 62) (Opd.int .i64 (0))) (OptL.opt OptL.nil) (GuardV.plain _)) rfl (c (OpJ.pickOr rfl (L rfl) (q 61) (q 63)) rfl (c (mv hN (q 64)) rfl (c (oq hN 65 (mv hN (q 17)) (OptL.keep (by rfl) OptL.nil) (GuardV.plain _)) rfl (c (oq hN 65 (OpJ.neqI (L rfl) (q 66) (Opd.int .i64 (0))) (OptL.opt OptL.nil) (GuardV.plain _)) rfl (c (OpJ.pickOr rfl (L rfl) (q 65) (q 67)) rfl (c (OpJ.val (v' := .d (.bool true)) (by rw [hg208] <;> rfl) (mv hN (q 68))) rfl (cg (sU 69 (L rfl)) rfl (cg (sU 69 (L rfl)) rfl (cg (sU 69 (L rfl)) rfl (c (OpJ.pickT (L rfl) (q 69) (Opd.bool true)) rfl (c (mv hN (q 73)) rfl (cg (sU 74 (L rfl)) rfl (cg (sU 74 (L rfl)) rfl (cg (sU 74 (L rfl)) rfl (c (OpJ.pickT (L rfl) (q 74) (Opd.bool true)) rfl (c (mv hN (q 78)) rfl (cg (sU 79 (L rfl)) rfl (cg (sU 79 (L rfl)) rfl (cg (sU 79 (L rfl)) rfl (c (OpJ.pickT (L rfl) (q 79) (Opd.bool true)) rfl cn))))))))))))))))))))))))) ?_
   exact hjj16 _ h _ _ (Mat.trans (mp [] [(3, (i6 a3)), (9, (.ptr 1009 0 [])), (10, (.ptr 1010 0 [])), (11, (.ptr 100400 0 [])), (12, (.ptr 1012 0 [])), (14, (.ptr 1014 0 [])), (16, (.ptr 1016 0 [])), (83, (bo true))] [(500, some (.know (globF 0 [50, 52, 133]))), (501, some (.know (globF 1 [71, 134, 135]))), (1009, some (.box 25 (.d (e_api_Resources r2.1)))), (1010, some (.box 25 (.d (e_api_Resources r4.1)))), (1012, some (.box 25 (.d (e_api_Resources r6.1)))), (1014, some (.box 25 (.d (e_api_Resources r7.1)))), (1016, some (.box 25 (.d (e_api_Resources r8.1)))), (100400, some (.box 58 (.d (e_exchangepointmake_Deck r5))))] hB) (mp [] _ _ hB))
  ·replace h := ite_f hg208 h
   obtain ⟨r209, hr209, h⟩ := bindS h
   rcases Bool.eq_false_or_eq_true (!r209) with hg210 | hg210
   ·replace h := ite_t hg210 h
    refine AWp.region (oc (mv hN (ot 13 (i6 r6.2)))
     (oc (OpJ.neqI (L rfl) (ot 59 (i6 r6.2)) (Opd.int .i64 (0)))
     (oc (mv hN (ot 60 (bo (r6.2 != (0 : Int)))))
     (oc (op hN 61 (i6 r7.2) (mv hN (ot 15 (i6 r7.2))) (OptL.keep rfl OptL.nil) (GuardV.plain _))
     (oc (op hN 61 (bo (r7.2 != (0 : Int))) (OpJ.neqI (L rfl) (ot 62 (i6 r7.2)) (Opd.int .i64 (0))) (OptL.opt OptL.nil) (GuardV.plain _))
     (oc (OpJ.pickOr rfl (L rfl) (ot 61 (bo (r6.2 != (0 : Int)))) (ot 63 (.opt ((r6.2 != (0 : Int)) == false) (bo (r7.2 != (0 : Int))))))
     (oc (mv hN (ot 64 (bo ((r6.2 != (0 : Int)) || (r7.2 != (0 : Int))))))
     (oc (op hN 65 (i6 r8.2) (mv hN (ot 17 (i6 r8.2))) (OptL.keep rfl OptL.nil) (GuardV.plain _))
     (oc (op hN 65 (bo (r8.2 != (0 : Int))) (OpJ.neqI (L rfl) (ot 66 (i6 r8.2)) (Opd.int .i64 (0))) (OptL.opt OptL.nil) (GuardV.plain _))
     (oc (OpJ.pickOr rfl (L rfl) (ot 65 (bo ((r6.2 != (0 : Int)) || (r7.2 != (0 : Int))))) (ot 67 (.opt (((r6.2 != (0 : Int)) || (r7.2 != (0 : Int))) == false) (bo (r8.2 != (0 : Int))))))
     (oc (OpJ.val (v' := .d (.bool false)) (by rw [hg208] <;> rfl) (mv hN (ot 68 (bo (((r6.2 != (0 : Int)) || (r7.2 != (0 : Int))) || (r8.2 != (0 : Int)))))))
     (oc (gd 69 (lb hN 25 (.d (e_api_Resources r6.1)) (.d (e_api_Resources r6.1)) tyS25 (At.here _) (ot 12 (.ptr 1012 0 []))))
     (oc (gd 69 (OpJ.callFn hB fnOk19 (resource_Valid_ac r6.1 r209 hr209) [(500, 500), (501, 501)] (by kernel_rfl) (L rfl) (by kernel_rfl) (OpdL.cons (ot 70 (.d (e_api_Resources r6.1))) OpdL.nil)))
     (oc (gd 69 (OpJ.not (L rfl) (ot 71 (bo r209))))
     (oc (OpJ.pickF (L rfl) (ot 69 (bo false)) (ot 72 (bo (!r209))))
     (oc (OpJ.val (v' := .d (.bool true)) (by rw [hg210] <;> rfl) (mv hN (ot 73 (bo (!r209)))))
     (oc (sU 74 (L rfl))
     (oc (sU 74 (L rfl))
     (oc (sU 74 (L rfl))
     (oc (OpJ.pickT (L rfl) (ot 74 (bo true)) (Opd.bool true))
     (oc (mv hN (ot 78 (bo true)))
     (oc (sU 79 (L rfl))
     (oc (sU 79 (L rfl))
     (oc (sU 79 (L rfl))
     (oc (OpJ.pickT (L rfl) (ot 79 (bo true)) (Opd.bool true))
     (OpJs.nil)))))))))))))))))))))))))) (by rfl) (by rfl) ?_
    exact hjj16 _ h _ _ (Mat.trans (mp [] [(3, (i6 a3)), (9, (.ptr 1009 0 [])), (10, (.ptr 1010 0 [])), (11, (.ptr 100400 0 [])), (12, (.ptr 1012 0 [])), (14, (.ptr 1014 0 [])), (16, (.ptr 1016 0 [])), (83, (bo true))] [(500, some (.know (globF 0 [50, 52, 133]))), (501, some (.know (globF 1 [71, 134, 135]))), (1009, some (.box 25 (.d (e_api_Resources r2.1)))), (1010, some (.box 25 (.d (e_api_Resources r4.1)))), (1012, some (.box 25 (.d (e_api_Resources r6.1)))), (1014, some (.box 25 (.d (e_api_Resources r7.1)))), (1016, some (.box 25 (.d (e_api_Resources r8.1)))), (100400, some (.box 58 (.d (e_exchangepointmake_Deck r5))))] hB) (mp [] _ _ hB))
   ·replace h := ite_f hg210 h
    obtain ⟨r211, hr211, h⟩ := bindS h
    rcases Bool.eq_false_or_eq_true (!r211) with hg212 | hg212
    ·replace h := ite_t hg212 h
     refine AWp.region (oc (mv hN (ot 13 (i6 r6.2)))
      (oc (OpJ.neqI (L rfl) (ot 59 (i6 r6.2)) (Opd.int .i64 (0)))
      (oc (mv hN (ot 60 (bo (r6.2 != (0 : Int)))))
      (oc (op hN 61 (i6 r7.2) (mv hN (ot 15 (i6 r7.2))) (OptL.keep rfl OptL.nil) (GuardV.plain _))
      (oc (op hN 61 (bo (r7.2 != (0 : Int))) (OpJ.neqI (L rfl) (ot 62 (i6 r7.2)) (Opd.int .i64 (0))) (OptL.opt OptL.nil) (GuardV.plain _))
      (oc (OpJ.pickOr rfl (L rfl) (ot 61 (bo (r6.2 != (0 : Int)))) (ot 63 (.opt ((r6.2 != (0 : Int)) == false) (bo (r7.2 != (0 : Int))))))
      (oc (mv hN (ot 64 (bo ((r6.2 != (0 : Int)) || (r7.2 != (0 : Int))))))
      (oc (op hN 65 (i6 r8.2) (mv hN (ot 17 (i6 r8.2))) (OptL.keep rfl OptL.nil) (GuardV.plain _))
      (oc (op hN 65 (bo (r8.2 != (0 : Int))) (OpJ.neqI (L rfl) (ot 66 (i6 r8.2)) (Opd.int .i64 (0))) (OptL.opt OptL.nil) (GuardV.plain _))
      (oc (OpJ.pickOr rfl (L rfl) (ot 65 (bo ((r6.2 != (0 : Int)) || (r7.2 != (0 : Int))))) (ot 67 (.opt (((r6.2 != (0 : Int)) || (r7.2 != (0 : Int))) == false) (bo (r8.2 != (0 : Int))))))
      (oc (OpJ.val (v' := .d (.bool false)) (by rw [hg208] <;> rfl) (mv hN (ot 68 (bo (((r6.2 != (0 : Int)) || (r7.2 != (0 : Int))) || (r8.2 != (0 : Int)))))))
      (oc (gd 69 (lb hN 25 (.d (e_api_Resources r6.1)) (.d (e_api_Resources r6.1)) tyS25 (At.here _) (ot 12 (.ptr 1012 0 []))))
      (oc (gd 69 (OpJ.callFn hB fnOk19 (resource_Valid_ac r6.1 r209 hr209) [(500, 500), (501, 501)] (by kernel_rfl) (L rfl) (by kernel_rfl) (OpdL.cons (ot 70 (.d (e_api_Resources r6.1))) OpdL.nil)))
      (oc (gd 69 (OpJ.not (L rfl) (ot 71 (bo r209))))
      (oc (OpJ.pickF (L rfl) (ot 69 (bo false)) (ot 72 (bo (!r209))))
      (oc (OpJ.val (v' := .d (.bool false)) (by rw [hg210] <;> rfl) (mv hN (ot 73 (bo (!r209)))))
      (oc (gd 74 (lb hN 25 (.d (e_api_Resources r7.1)) (.d (e_api_Resources r7.1)) tyS25 (At.here _) (ot 14 (.ptr 1014 0 []))))
      (oc (gd 74 (OpJ.callFn hB fnOk19 (resource_Valid_ac r7.1 r211 hr211) [(500, 500), (501, 501)] (by kernel_rfl) (L rfl) (by kernel_rfl) (OpdL.cons (ot 75 (.d (e_api_Resources r7.1))) OpdL.nil)))
      (oc (gd 74 (OpJ.not (L rfl) (ot 76 (bo r211))))
      (oc (OpJ.pickF (L rfl) (ot 74 (bo false)) (ot 77 (bo (!r211))))
      (oc (OpJ.val (v' := .d (.bool true)) (by rw [hg212] <;> rfl) (mv hN (ot 78 (bo (!r211)))))
      (oc (sU 79 (L rfl))
      (oc (sU 79 (L rfl))
      (oc (sU 79 (L rfl))
      (oc (OpJ.pickT (L rfl) (ot 79 (bo true)) (Opd.bool true))
      (OpJs.nil)))))))))))))))))))))))))) (by rfl) (by rfl) ?_
     exact hjj16 _ h _ _ (Mat.trans (mp [] [(3, (i6 a3)), (9, (.ptr 1009 0 [])), (10, (.ptr 1010 0 [])), (11, (.ptr 100400 0 [])), (12, (.ptr 1012 0 [])), (14, (.ptr 1014 0 [])), (16, (.ptr 1016 0 [])), (83, (bo true))] [(500, some (.know (globF 0 [50, 52, 133]))), (501, some (.know (globF 1 [71, 134, 135]))), (1009, some (.box 25 (.d (e_api_Resources r2.1)))), (1010, some (.box 25 (.d (e_api_Resources r4.1)))), (1012, some (.box 25 (.d (e_api_Resources r6.1)))), (1014, some (.box 25 (.d (e_api_Resources r7.1)))), (1016, some (.box 25 (.d (e_api_Resources r8.1)))), (100400, some (.box 58 (.d (e_exchangepointmake_Deck r5))))] hB) (mp [] _ _ hB))
    ·replace h := ite_f hg212 h
     obtain ⟨r213, hr213, h⟩ := bindS h
     refine AWp.region (oc (mv hN (ot 13 (i6 r6.2)))
      (oc (OpJ.neqI (L rfl) (ot 59 (i6 r6.2)) (Opd.int .i64 (0)))
      (oc (mv hN (ot 60 (bo (r6.2 != (0 : Int)))))
      (oc (op hN 61 (i6 r7.2) (mv hN (ot 15 (i6 r7.2))) (OptL.keep rfl OptL.nil) (GuardV.plain _))
      (oc (op hN 61 (bo (r7.2 != (0 : Int))) (OpJ.neqI (L rfl) (ot 62 (i6 r7.2)) (Opd.int .i64 (0))) (OptL.opt OptL.nil) (GuardV.plain _))
      (oc (OpJ.pickOr rfl (L rfl) (ot 61 (bo (r6.2 != (0 : Int)))) (ot 63 (.opt ((r6.2 != (0 : Int)) == false) (bo (r7.2 != (0 : Int))))))
      (oc (mv hN (ot 64 (bo ((r6.2 != (0 : Int)) || (r7.2 != (0 : Int))))))
      (oc (op hN 65 (i6 r8.2) (mv hN (ot 17 (i6 r8.2))) (OptL.keep rfl OptL.nil) (GuardV.plain _))
      (oc (op hN 65 (bo (r8.2 != (0 : Int))) (OpJ.neqI (L rfl) (ot 66 (i6 r8.2)) (Opd.int .i64 (0))) (OptL.opt OptL.nil) (GuardV.plain _))
      (oc (OpJ.pickOr rfl (L rfl) (ot 65 (bo ((r6.2 != (0 : Int)) || (r7.2 != (0 : Int))))) (ot 67 (.opt (((r6.2 != (0 : Int)) || (r7.2 != (0 : Int))) == false) (bo (r8.2 != (0 : Int))))))
      (oc (OpJ.val (v' := .d (.bool false)) (by rw [hg208] <;> rfl) (mv hN (ot 68 (bo (((r6.2 != (0 : Int)) || (r7.2 != (0 : Int))) || (r8.2 != (0 : Int)))))))
      (oc (gd 69 (lb hN 25 (.d (e_api_Resources r6.1)) (.d (e_api_Resources r6.1)) tyS25 (At.here _) (ot 12 (.ptr 1012 0 []))))
      (oc (gd 69 (OpJ.callFn hB fnOk19 (resource_Valid_ac r6.1 r209 hr209) [(500, 500), (501, 501)] (by kernel_rfl) (L rfl) (by kernel_rfl) (OpdL.cons (ot 70 (.d (e_api_Resources r6.1))) OpdL.nil)))
      (oc (gd 69 (OpJ.not (L rfl) (ot 71 (bo r209))))
      (oc (OpJ.pickF (L rfl) (ot 69 (bo false)) (ot 72 (bo (!r209))))
      (oc (OpJ.val (v' := .d (.bool false)) (by rw [hg210] <;> rfl) (mv hN (ot 73 (bo (!r209)))))
      (oc (gd 74 (lb hN 25 (.d (e_api_Resources r7.1)) (.d (e_api_Resources r7.1)) tyS25 (At.here _) (ot 14 (.ptr 1014 0 []))))
      (oc (gd 74 (OpJ.callFn hB fnOk19 (resource_Valid_ac r7.1 r211 hr211) [(500, 500), (501, 501)] (by kernel_rfl) (L rfl) (by kernel_rfl) (OpdL.cons (ot 75 (.d (e_api_Resources r7.1))) OpdL.nil)))
      (oc (gd 74 (OpJ.not (L rfl) (ot 76 (bo r211))))
      (oc (OpJ.pickF (L rfl) (ot 74 (bo false)) (ot 77 (bo (!r211))))
      (oc (OpJ.val (v' := .d (.bool false)) (by rw [hg212] <;> rfl) (mv hN (ot 78 (bo (!r211)))))
      (oc (gd 79 (lb hN 25 (.d (e_api_Resources r8.1)) (.d (e_api_Resources r8.1)) tyS25 (At.here _) (ot 16 (.ptr 1016 0 []))))
      (oc (gd 79 (OpJ.callFn hB fnOk19 (resource_Valid_ac r8.1 r213 hr213) [(500, 500), (501, 501)] (by kernel_rfl) (L rfl) (by kernel_rfl) (OpdL.cons (ot 80 (.d (e_api_Resources r8.1))) OpdL.nil)))
      (oc (gd 79 (OpJ.not (L rfl) (ot 81 (bo r213))))
      (oc (OpJ.pickF (L rfl) (ot 79 (bo false)) (ot 82 (bo (!r213))))
      (OpJs.nil)))))))))))))))))))))))))) (by rfl) (by rfl) ?_
     exact hjj16 _ h _ _ (Mat.trans (mp [] [(3, (i6 a3)), (9, (.ptr 1009 0 [])), (10, (.ptr 1010 0 [])), (11, (.ptr 100400 0 [])), (12, (.ptr 1012 0 [])), (14, (.ptr 1014 0 [])), (16, (.ptr 1016 0 [])), (83, (bo (!r213)))] [(500, some (.know (globF 0 [50, 52, 133]))), (501, some (.know (globF 1 [71, 134, 135]))), (1009, some (.box 25 (.d (e_api_Resources r2.1)))), (1010, some (.box 25 (.d (e_api_Resources r4.1)))), (1012, some (.box 25 (.d (e_api_Resources r6.1)))), (1014, some (.box 25 (.d (e_api_Resources r7.1)))), (1016, some (.box 25 (.d (e_api_Resources r8.1)))), (100400, some (.box 58 (.d (e_exchangepointmake_Deck r5))))] hB) (mp [] _ _ hB))


end Go.Proofs.YtgcilleccigmdaaGreatDoor

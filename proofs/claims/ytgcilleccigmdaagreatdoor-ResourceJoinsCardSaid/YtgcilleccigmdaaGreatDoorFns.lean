/- Printed by gen.py: the Go functions as plain functions, and that the code does what they say. -/
import Derived.Test.YtgcilleccigmdaaGreatDoorChecked
import Derived.Test.YtgcilleccigmdaaGreatDoorVcYB
import Derived.Test.YtgcilleccigmdaaGreatDoorVcZ
import Derived.KernelRfl
import Derived.Test.YtgcilleccigmdaaGreatDoorVcMD
import Derived.Test.YtgcilleccigmdaaGreatDoorVcMQ
import Derived.Test.YtgcilleccigmdaaGreatDoorVcSG
import Derived.Test.YtgcilleccigmdaaGreatDoorFnsD
import Derived.Test.YtgcilleccigmdaaGreatDoorExt
import Derived.Test.YtgcilleccigmdaaGreatDoorVcGl
import Derived.Test.YtgcilleccigmdaaGreatDoorVcSO
import Derived.Test.YtgcilleccigmdaaGreatDoorVcWS
namespace Go.Proofs.YtgcilleccigmdaaGreatDoor
open Go Go.Vc
open Tryz
set_option maxHeartbeats 4000000
set_option maxRecDepth 100000
noncomputable def exchangepointref21_Same_L0 (a0 : api_Resources) (a1 : api_Resources) (s2 : Int) : Option (((Unit) ⊕ (Unit)) ⊕ (Int)) :=
 (if (decide (s2 < (a0.fAddrs.length : Int))) = true then
 (idx a0.fAddrs s2).bind fun x14 =>
 (idx a1.fAddrs s2).bind fun x15 =>
 (if (!(((x15.fFrom.fV6 == x14.fFrom.fV6) && ((x15.fFrom.fHi == x14.fFrom.fHi) && ((x15.fFrom.fLo == x14.fFrom.fLo) && true))) && (((x15.fTo.fV6 == x14.fTo.fV6) && ((x15.fTo.fHi == x14.fTo.fHi) && ((x15.fTo.fLo == x14.fTo.fLo) && true))) && true))) = true then
 some (.inl (.inl ()))
 else
 some (.inr (w64 (s2 + (1 : Int)))))
 else
 some (.inl (.inr ())))
noncomputable def exchangepointref21_Same_L1 (a0 : api_Resources) (a1 : api_Resources) (s19 : Int) : Option (((Unit) ⊕ (Unit)) ⊕ (Int)) :=
 (if (decide (s19 < (a0.fASNs.length : Int))) = true then
 (idx a0.fASNs s19).bind fun x31 =>
 (idx a1.fASNs s19).bind fun x32 =>
 (if (!((x32.fFrom == x31.fFrom) && ((x32.fTo == x31.fTo) && true))) = true then
 some (.inl (.inl ()))
 else
 some (.inr (w64 (s19 + (1 : Int)))))
 else
 some (.inl (.inr ())))
noncomputable def exchangepointref21_Same (a0 : api_Resources) (a1 : api_Resources) : Option (Bool) :=
 (if (((a0.fAddrs.length : Int) != (a1.fAddrs.length : Int)) || ((a0.fASNs.length : Int) != (a1.fASNs.length : Int))) = true then
 some false
 else
 (loop (exchangepointref21_Same_L0 a0 a1) (0 : Int)).bind fun x17 => match x17 with
 | (.inl _) =>
  some false
 | (.inr _) =>
  (loop (exchangepointref21_Same_L1 a0 a1) (0 : Int)).bind fun x34 => match x34 with
  | (.inl _) =>
   some false
  | (.inr _) =>
   some true)
theorem exchangepointref21_Same_ac (a0 : api_Resources) (a1 : api_Resources) (r : Bool) (h : exchangepointref21_Same a0 a1 = some r) : AC Tryz.prog 16 [(.d (e_api_Resources a0)), (.d (e_api_Resources a1))] [] (.d (.bool r)) [] := by
 refine AC.of_code2 Tryz.func16 rfl rfl (Nat.le_of_ble_eq_true (by rfl)) fun B hB hN => ?_
 have L {d : Nat} (h : Nat.blt d Tryz.f16.ntmps = true) : d < B.N := ltN hN h
 delta exchangepointref21_Same at h
 refine sr (cg (OpJ.box hB (nm := 1002) (by decide) (by simp) rfl (L rfl) (q 0)) rfl (cg (OpJ.box hB (nm := 1003) (by decide) (by simp) rfl (L rfl) (q 1)) rfl (c (OpJ.assign (L rfl) (Opd.bool false)) rfl cn))) ?_
 apply AWp.seq
 refine sr (c (fo 1002 0 [0] hN underlying25 0 tyS22 (q 2)) rfl (c (la hN 25 tyS22 (q 9)) rfl (c (OpJ.val (v' := (i6 (a0.fAddrs.length : Int))) (by simp) (OpJ.lenD underlying22 (L rfl) (q 10))) rfl (c (fo 1003 0 [0] hN underlying25 0 tyS22 (q 3)) rfl (c (la hN 25 tyS22 (q 12)) rfl (c (OpJ.val (v' := (i6 (a1.fAddrs.length : Int))) (by simp) (OpJ.lenD underlying22 (L rfl) (q 13))) rfl (c (OpJ.neqI (L rfl) (q 11) (q 14)) rfl (c (mv hN (q 15)) rfl (c (oq hN 16 (fo 1002 1 [1] hN underlying25 1 tyS23 (q 2)) (OptL.keep (by rfl) OptL.nil) (GuardV.plain _)) rfl (c (oq hN 16 (la hN 25 tyS23 (q 17)) (OptL.opt OptL.nil) (GuardV.plain _)) rfl (c (oq hN 16 (OpJ.val (v' := (i6 (a0.fASNs.length : Int))) (by simp) (OpJ.lenD underlying23 (L rfl) (q 18))) (OptL.opt OptL.nil) (GuardV.plain _)) rfl (c (oq hN 16 (fo 1003 1 [1] hN underlying25 1 tyS23 (q 3)) (OptL.keep (by rfl) OptL.nil) (GuardV.plain _)) rfl (c (oq hN 16 (la hN 25 tyS23 (q 20)) (OptL.opt OptL.nil) (GuardV.plain _)) rfl (c (oq hN 16 (OpJ.val (v' := (i6 (a1.fASNs.length : Int))) (by simp) (OpJ.lenD underlying23 (L rfl) (q 21))) (OptL.opt OptL.nil) (GuardV.plain _)) rfl (c (oq hN 16 (OpJ.neqI (L rfl) (q 19) (q 22)) (OptL.opt (OptL.opt OptL.nil)) (GuardV.plain _)) rfl (c (OpJ.pickOr rfl (L rfl) (q 16) (q 23)) rfl cn)))))))))))))))) ?_
 refine AWp.cond rfl (fun hg1 => ?_) (fun hg1 => ?_)
 ·replace h := ite_t hg1 h
  refine sr (c (OpJ.assign (L rfl) (Opd.bool false)) rfl cn) ?_
  apply AWp.ret
  apply seqQ_r
  obtain rfl := Option.some.inj h
  exact ⟨.inl rfl, _, _, (kp [(4, _)] [] hB rfl rfl (by rfl)), [(bo false)], (Res.tmp (by rfl) (by rfl) Res.nil), rfl, by rfl, by rfl, by rfl⟩
 ·replace h := ite_f hg1 h
  apply AWp.skip
  apply seqQ_n
  apply AWp.seq
  refine sr (c (fo 1002 0 [0] hN underlying25 0 tyS22 (q 2)) rfl (c (la hN 25 tyS22 (q 25)) rfl (c (OpJ.val (v' := (i6 (a0.fAddrs.length : Int))) (by simp) (OpJ.lenD underlying22 (L rfl) (q 26))) rfl (c (mv hN (Opd.int .i64 (0))) rfl cn)))) ?_
  apply AWp.block
  obtain ⟨x17, hx18, h⟩ := bindS h
  refine lg (exchangepointref21_Same_L0 a0 a1) (fun s2 : Int => ([(2, (pt 1002)), (3, (pt 1003)), (26, (qe_api_Range_6 a0.fAddrs)), (27, (i6 (a0.fAddrs.length : Int))), (28, (i6 s2))] : EL)) (fun s2 : Int => ([(1002, bd 25 (e_api_Resources a0)), (1003, bd 25 (e_api_Resources a1))] : OL)) (fun (x : (Unit) ⊕ (Unit)) e E' O' => match x with | (.inl _p) => e = .ret ∧ Mat B E' O' ([(4, (bo false))] : EL) ([] : OL) | (.inr _p) => e = .exit 0 ∧ Mat B E' O' ([(2, (pt 1002)), (3, (pt 1003))] : EL) ([(1002, bd 25 (e_api_Resources a0)), (1003, bd 25 (e_api_Resources a1))] : OL)) hx18 (mp [] _ _ hB) (fun s2 y h => ?_) (fun e E' O' hR => ?_)
  ·unfold exchangepointref21_Same_L0 at h
   refine sr (c (OpJ.lss (L rfl) (q 28) (q 27)) rfl cn) ?_
   apply AWp.seq
   refine AWp.cond rfl (fun hg13 => ?_) (fun hg13 => ?_)
   ·replace h := ite_t hg13 h
    apply AWp.skip
    apply seqQ_n
    apply AWp.seq
    apply AWp.block
    obtain ⟨x14, hx14, h⟩ := bindS h
    refine sr (c (mv hN (q 28)) rfl (c (OpJ.indexD underlying22 tyS46 (idx_some hx14).1 (get_map e_api_Range (idx_some hx14).2) (L rfl) (q 26) (q 28)) rfl (c (OpJ.loadD tyS46 (by rfl) (by rfl) (L rfl) (q 31)) rfl (cg (OpJ.alloc hB tyZ46 (nm := 1006) (by decide) (L rfl)) rfl (c (OpJ.assign (L rfl) (q 30)) rfl (cg (sB tyS46 (q 6) (q 32)) rfl cn)))))) ?_
    obtain ⟨x15, hx15, h⟩ := bindS h
    refine sd (c (fo 1003 0 [0] hN underlying25 0 tyS22 (q 3)) rfl (c (la hN 25 tyS22 (q 33)) rfl (c (mv hN (q 5)) rfl (c (OpJ.indexD underlying22 tyS46 (idx_some hx15).1 (get_map e_api_Range (idx_some hx15).2) (L rfl) (q 34) (q 35)) rfl (c (OpJ.loadD tyS46 (by rfl) (by rfl) (L rfl) (q 36)) rfl (c (lb hN 46 _ _ tyS46 (At.here _) (q 6)) rfl (c (OpJ.neqD (h := 3) (FitE.st underlying46 rfl held46 (FitF.cons (x := (e_api_Addr x15.fFrom)) (y := (e_api_Addr x14.fFrom)) (by decide) rfl tyS42 ⟨rfl, rfl⟩ ⟨rfl, rfl⟩ (FitE.st underlying42 rfl held42 (FitF.cons (x := (.bool x15.fFrom.fV6)) (y := (.bool x14.fFrom.fV6)) (by decide) rfl tyS4 ⟨rfl, rfl⟩ ⟨rfl, rfl⟩ (FitE.bool (h := 0) x15.fFrom.fV6 x14.fFrom.fV6 underlying4) (FitF.cons (x := (.int .u64 x15.fFrom.fHi)) (y := (.int .u64 x14.fFrom.fHi)) (by decide) rfl tyS40 ⟨rfl, rfl⟩ ⟨rfl, rfl⟩ (FitE.int (h := 0) x15.fFrom.fHi x14.fFrom.fHi underlying40) (FitF.cons (x := (.int .u64 x15.fFrom.fLo)) (y := (.int .u64 x14.fFrom.fLo)) (by decide) rfl tyS40 ⟨rfl, rfl⟩ ⟨rfl, rfl⟩ (FitE.int (h := 0) x15.fFrom.fLo x14.fFrom.fLo underlying40) FitF.nil)))) (FitF.cons (x := (e_api_Addr x15.fTo)) (y := (e_api_Addr x14.fTo)) (by decide) rfl tyS42 ⟨rfl, rfl⟩ ⟨rfl, rfl⟩ (FitE.st underlying42 rfl held42 (FitF.cons (x := (.bool x15.fTo.fV6)) (y := (.bool x14.fTo.fV6)) (by decide) rfl tyS4 ⟨rfl, rfl⟩ ⟨rfl, rfl⟩ (FitE.bool (h := 0) x15.fTo.fV6 x14.fTo.fV6 underlying4) (FitF.cons (x := (.int .u64 x15.fTo.fHi)) (y := (.int .u64 x14.fTo.fHi)) (by decide) rfl tyS40 ⟨rfl, rfl⟩ ⟨rfl, rfl⟩ (FitE.int (h := 0) x15.fTo.fHi x14.fTo.fHi underlying40) (FitF.cons (x := (.int .u64 x15.fTo.fLo)) (y := (.int .u64 x14.fTo.fLo)) (by decide) rfl tyS40 ⟨rfl, rfl⟩ ⟨rfl, rfl⟩ (FitE.int (h := 0) x15.fTo.fLo x14.fTo.fLo underlying40) FitF.nil)))) FitF.nil))) eqg46 ⟨rfl, rfl⟩ (by rfl) (L rfl) (q 37) (q 38)) rfl cn))))))) (by kernel_rfl) (by kernel_rfl) ?_
    refine AWp.cond rfl (fun hg16 => ?_) (fun hg16 => ?_)
    ·replace h := ite_t hg16 h
     refine sr (c (OpJ.assign (L rfl) (Opd.bool false)) rfl cn) ?_
     apply AWp.ret
     apply blkQ_r
     apply seqQ_r
     obtain rfl := Option.some.inj h
     exact ⟨(fun hc => by cases hc), rfl, (mp [] _ _ hB)⟩
    ·replace h := ite_f hg16 h
     apply AWp.skip
     apply blkQ_n
     apply seqQ_n
     refine rg (c (add6 (L rfl) (q 28) (Opd.int .i64 (1))) rfl (c (mv hN (q 40)) rfl cn)) ?_
     obtain rfl := Option.some.inj h
     exact ⟨rfl, (mp [] _ _ hB)⟩
   ·replace h := ite_f hg13 h
    apply AWp.exit
    apply seqQ_e
    obtain rfl := Option.some.inj h
    exact ⟨(fun hc => by cases hc), rfl, (mp [] _ _ hB)⟩
  ·rcases x17 with _ | _
   ·obtain ⟨rfl, hmat⟩ := hR
    apply blkQ_r
    apply seqQ_r
    obtain rfl := Option.some.inj h
    exact ⟨.inl rfl, _, _, (Mat.trans hmat (mp [] [(4, (bo false))] [] hB)), [(bo false)], (Res.tmp (by rfl) (by rfl) Res.nil), rfl, by rfl, by rfl, by rfl⟩
   ·obtain ⟨rfl, hmat⟩ := hR
    apply blkQ_hit
    apply seqQ_n
    refine AWp.ghost hmat ?_
    apply AWp.seq
    refine sr (c (fo 1002 1 [1] hN underlying25 1 tyS23 (q 2)) rfl (c (la hN 25 tyS23 (q 41)) rfl (c (OpJ.val (v' := (i6 (a0.fASNs.length : Int))) (by simp) (OpJ.lenD underlying23 (L rfl) (q 42))) rfl (c (mv hN (Opd.int .i64 (0))) rfl cn)))) ?_
    apply AWp.block
    obtain ⟨x34, hx35, h⟩ := bindS h
    refine lg (exchangepointref21_Same_L1 a0 a1) (fun s19 : Int => ([(3, (pt 1003)), (42, (qe_api_Span_2 a0.fASNs)), (43, (i6 (a0.fASNs.length : Int))), (44, (i6 s19))] : EL)) (fun s19 : Int => ([(1003, bd 25 (e_api_Resources a1))] : OL)) (fun (x : (Unit) ⊕ (Unit)) e E' O' => match x with | (.inl _p) => e = .ret ∧ Mat B E' O' ([(4, (bo false))] : EL) ([] : OL) | (.inr _p) => e = .exit 2 ∧ Mat B E' O' ([] : EL) ([] : OL)) hx35 (mp [] _ _ hB) (fun s19 y h => ?_) (fun e E' O' hR => ?_)
    ·unfold exchangepointref21_Same_L1 at h
     refine sr (c (OpJ.lss (L rfl) (q 44) (q 43)) rfl cn) ?_
     apply AWp.seq
     refine AWp.cond rfl (fun hg30 => ?_) (fun hg30 => ?_)
     ·replace h := ite_t hg30 h
      apply AWp.skip
      apply seqQ_n
      apply AWp.seq
      apply AWp.block
      obtain ⟨x31, hx31, h⟩ := bindS h
      refine sr (c (mv hN (q 44)) rfl (c (OpJ.indexD underlying23 tyS62 (idx_some hx31).1 (get_map e_api_Span (idx_some hx31).2) (L rfl) (q 42) (q 44)) rfl (c (OpJ.loadD tyS62 (by rfl) (by rfl) (L rfl) (q 47)) rfl (cg (OpJ.alloc hB tyZ62 (nm := 1008) (by decide) (L rfl)) rfl (c (OpJ.assign (L rfl) (q 46)) rfl (cg (sB tyS62 (q 8) (q 48)) rfl cn)))))) ?_
      obtain ⟨x32, hx32, h⟩ := bindS h
      refine sd (c (fo 1003 1 [1] hN underlying25 1 tyS23 (q 3)) rfl (c (la hN 25 tyS23 (q 49)) rfl (c (mv hN (q 7)) rfl (c (OpJ.indexD underlying23 tyS62 (idx_some hx32).1 (get_map e_api_Span (idx_some hx32).2) (L rfl) (q 50) (q 51)) rfl (c (OpJ.loadD tyS62 (by rfl) (by rfl) (L rfl) (q 52)) rfl (c (lb hN 62 _ _ tyS62 (At.here _) (q 8)) rfl (c (OpJ.neqD (h := 2) (FitE.st underlying62 rfl held62 (FitF.cons (x := (.int .i64 x32.fFrom)) (y := (.int .i64 x31.fFrom)) (by decide) rfl tyS3 ⟨rfl, rfl⟩ ⟨rfl, rfl⟩ (FitE.int (h := 0) x32.fFrom x31.fFrom underlying3) (FitF.cons (x := (.int .i64 x32.fTo)) (y := (.int .i64 x31.fTo)) (by decide) rfl tyS3 ⟨rfl, rfl⟩ ⟨rfl, rfl⟩ (FitE.int (h := 0) x32.fTo x31.fTo underlying3) FitF.nil))) eqg62 ⟨rfl, rfl⟩ (by rfl) (L rfl) (q 53) (q 54)) rfl cn))))))) (by kernel_rfl) (by kernel_rfl) ?_
      refine AWp.cond rfl (fun hg33 => ?_) (fun hg33 => ?_)
      ·replace h := ite_t hg33 h
       refine sr (c (OpJ.assign (L rfl) (Opd.bool false)) rfl cn) ?_
       apply AWp.ret
       apply blkQ_r
       apply seqQ_r
       obtain rfl := Option.some.inj h
       exact ⟨(fun hc => by cases hc), rfl, (mp [] _ _ hB)⟩
      ·replace h := ite_f hg33 h
       apply AWp.skip
       apply blkQ_n
       apply seqQ_n
       refine rg (c (add6 (L rfl) (q 44) (Opd.int .i64 (1))) rfl (c (mv hN (q 56)) rfl cn)) ?_
       obtain rfl := Option.some.inj h
       exact ⟨rfl, (mp [] _ _ hB)⟩
     ·replace h := ite_f hg30 h
      apply AWp.exit
      apply seqQ_e
      obtain rfl := Option.some.inj h
      exact ⟨(fun hc => by cases hc), rfl, (mp [] _ _ hB)⟩
    ·rcases x34 with _ | _
     ·obtain ⟨rfl, hmat⟩ := hR
      apply blkQ_r
      apply seqQ_r
      obtain rfl := Option.some.inj h
      exact ⟨.inl rfl, _, _, (Mat.trans hmat (mp [] [(4, (bo false))] [] hB)), [(bo false)], (Res.tmp (by rfl) (by rfl) Res.nil), rfl, by rfl, by rfl, by rfl⟩
     ·obtain ⟨rfl, hmat⟩ := hR
      apply blkQ_hit
      apply seqQ_n
      refine AWp.ghost hmat ?_
      refine sr (c (OpJ.assign (L rfl) (Opd.bool true)) rfl cn) ?_
      apply AWp.ret
      obtain rfl := Option.some.inj h
      exact ⟨.inl rfl, _, _, (kp [(4, _)] [] hB rfl rfl (by rfl)), [(bo true)], (Res.tmp (by rfl) (by rfl) Res.nil), rfl, by rfl, by rfl, by rfl⟩
noncomputable def resource_Covers (a0 : api_Resources) (a1 : api_Resources) : Option (Bool) :=
 (resource_of a1).bind fun r1 =>
 (resource_of a0).bind fun r2 =>
 (resource_set_minus r1 r2).bind fun r3 =>
 some ((w64 ((r3.faddrs.length : Int) + (r3.fasns.length : Int))) == (0 : Int))
theorem resource_Covers_ac (a0 : api_Resources) (a1 : api_Resources) (r : Bool) (h : resource_Covers a0 a1 = some r) : AC Tryz.prog 17 [(.d (e_api_Resources a0)), (.d (e_api_Resources a1))] [(500, (.know (globF 0 [50, 52, 133]))), (501, (.know (globF 1 [71, 134, 135])))] (.d (.bool r)) [(500, some (.know (globF 0 [50, 52, 133]))), (501, some (.know (globF 1 [71, 134, 135])))] := by
 refine AC.of_code2 Tryz.func17 rfl rfl (Nat.le_of_ble_eq_true (by rfl)) fun B hB hN => ?_
 delta resource_Covers at h
 refine sr (cg (OpJ.box hB (nm := 1002) (by decide) (by simp) rfl (ltN hN rfl) (q 0)) rfl (cg (OpJ.box hB (nm := 1003) (by decide) (by simp) rfl (ltN hN rfl) (q 1)) rfl (c (OpJ.assign (ltN hN rfl) (Opd.bool false)) rfl cn))) ?_
 apply AWp.seq
 obtain ⟨r1, hr1, h⟩ := bindS h
 obtain ⟨r2, hr2, h⟩ := bindS h
 obtain ⟨r3, hr3, h⟩ := bindS h
 refine AWp.draws (by kernel_rfl) (oc (lb hN 25 (.d (e_api_Resources a1)) (.d (e_api_Resources a1)) tyS25 (At.here _) (ot 3 (pt 1003)))
 (oc (OpJ.callFn hB fnOk29 (resource_of_ac a1 r1 hr1) [] (by kernel_rfl) (ltN hN rfl) (by kernel_rfl) (OpdL.cons (ot 6 (.d (e_api_Resources a1))) OpdL.nil))
 (oc (lb hN 25 (.d (e_api_Resources a0)) (.d (e_api_Resources a0)) tyS25 (At.here _) (ot 2 (pt 1002)))
 (oc (OpJ.callFn hB fnOk29 (resource_of_ac a0 r2 hr2) [] (by kernel_rfl) (ltN hN rfl) (by kernel_rfl) (OpdL.cons (ot 8 (.d (e_api_Resources a0))) OpdL.nil))
 (oc (OpJ.callFn hB fnOk37 (resource_set_minus_ac r1 r2 r3 hr3) [(500, 500), (501, 501)] (by kernel_rfl) (ltN hN rfl) (by kernel_rfl) (OpdL.cons (ot 7 (.d (e_resource_set r1))) (OpdL.cons (ot 9 (.d (e_resource_set r2))) OpdL.nil)))
 (oc (OpJ.alloc hB tyZ69 (nm := 1005) (by decide) (ltN hN rfl))
 (oc (OpJ.storeB (bt := 69) (c := (.st [.nils, .nils])) (v := (.d (e_resource_set r3))) (c' := (.d (e_resource_set r3))) tyS69 (SetAt.here _ _) (by rfl) (by rfl) (by simp) rfl (ot 5 (pt 1005)) (ot 10 (.d (e_resource_set r3))))
 (OpJs.nil)))))))) (by kernel_rfl) (by rfl) (by rfl) ?_
 apply seqQ_n
 refine AWp.ghost (mp [] [(5, (pt 1005))] [(500, some (.know (globF 0 [50, 52, 133]))), (501, some (.know (globF 1 [71, 134, 135]))), (1005, bd 69 (e_resource_set r3))] hB) ?_
 refine sr (c (fo 1005 0 [0] hN underlying69 0 tyS66 (q 5)) rfl (c (la hN 69 tyS66 (q 11)) rfl (c (OpJ.val (v' := (i6 (r3.faddrs.length : Int))) (by simp) (OpJ.lenD underlying66 (ltN hN rfl) (q 12))) rfl (c (fo 1005 1 [1] hN underlying69 1 tyS67 (q 5)) rfl (c (la hN 69 tyS67 (q 14)) rfl (c (OpJ.val (v' := (i6 (r3.fasns.length : Int))) (by simp) (OpJ.lenD underlying67 (ltN hN rfl) (q 15))) rfl (c (add6 (ltN hN rfl) (q 13) (q 16)) rfl (c (OpJ.eqlI (ltN hN rfl) (q 17) (Opd.int .i64 (0))) rfl (c (OpJ.assign (ltN hN rfl) (q 18)) rfl cn))))))))) ?_
 apply AWp.ret
 obtain rfl := Option.some.inj h
 exact ⟨.inl rfl, _, _, (kp [(4, _)] [(500, some _), (501, some _)] hB rfl rfl (by rfl)), [(bo ((w64 ((r3.faddrs.length : Int) + (r3.fasns.length : Int))) == (0 : Int)))], (Res.tmp (by rfl) (by rfl) Res.nil), rfl, by rfl, by rfl, by rfl⟩
noncomputable def exchangepointref21_Covers (a0 : api_Resources) (a1 : api_Resources) : Option (Bool) :=
 (exchangepointref21_Minus a1 a0).bind fun r1 =>
 some (((r1.2 == (0 : Int)) && ((r1.1.fAddrs.length : Int) == (0 : Int))) && ((r1.1.fASNs.length : Int) == (0 : Int)))
theorem exchangepointref21_Covers_ac (a0 : api_Resources) (a1 : api_Resources) (r : Bool) (h : exchangepointref21_Covers a0 a1 = some r) : AC Tryz.prog 18 [(.d (e_api_Resources a0)), (.d (e_api_Resources a1))] [] (.d (.bool r)) [] := by
 refine AC.of_code2 Tryz.func18 rfl rfl (Nat.le_of_ble_eq_true (by rfl)) fun B hB hN => ?_
 have L {d : Nat} (h : Nat.blt d Tryz.f18.ntmps = true) : d < B.N := ltN hN h
 delta exchangepointref21_Covers at h
 refine sr (cg (OpJ.box hB (nm := 1002) (by decide) (by simp) rfl (L rfl) (q 0)) rfl (cg (OpJ.box hB (nm := 1003) (by decide) (by simp) rfl (L rfl) (q 1)) rfl (c (OpJ.assign (L rfl) (Opd.bool false)) rfl cn))) ?_
 obtain ⟨r1, hr1, h⟩ := bindS h
 refine sr (c (lb hN 25 _ _ tyS25 (At.here _) (q 3)) rfl (c (lb hN 25 _ _ tyS25 (At.here _) (q 2)) rfl (cg (cf hB fnOk15 (exchangepointref21_Minus_ac a1 a0 r1 hr1) (L rfl) (OpdL.cons (q 8) (OpdL.cons (q 9) OpdL.nil))) rfl (c (mv hN (q 10)) rfl (c (OpJ.extract (by rfl) rfl (L rfl) (q 7)) rfl (c (OpJ.extract (by rfl) rfl (L rfl) (q 7)) rfl (cg (OpJ.alloc hB tyZ25 (nm := 1005) (by decide) (L rfl)) rfl (cg (sB tyS25 (q 5) (q 11)) rfl (c (OpJ.assign (L rfl) (q 12)) rfl cn))))))))) ?_
 refine sr (c (mv hN (q 6)) rfl (c (OpJ.eqlI (L rfl) (q 13) (Opd.int .i64 (0))) rfl (c (mv hN (q 14)) rfl (c (oq hN 15 (fo 1005 0 [0] hN underlying25 0 tyS22 (q 5)) (OptL.keep (by rfl) OptL.nil) (GuardV.plain _)) rfl (c (oq hN 15 (la hN 25 tyS22 (q 16)) (OptL.opt OptL.nil) (GuardV.plain _)) rfl (c (oq hN 15 (OpJ.val (v' := (i6 (r1.1.fAddrs.length : Int))) (by simp) (OpJ.lenD underlying22 (L rfl) (q 17))) (OptL.opt OptL.nil) (GuardV.plain _)) rfl (c (oq hN 15 (OpJ.eqlI (L rfl) (q 18) (Opd.int .i64 (0))) (OptL.opt OptL.nil) (GuardV.plain _)) rfl (c (OpJ.pickAnd rfl (L rfl) (q 15) (q 19)) rfl (c (mv hN (q 20)) rfl (c (oq hN 21 (fo 1005 1 [1] hN underlying25 1 tyS23 (q 5)) (OptL.keep (by rfl) OptL.nil) (GuardV.plain _)) rfl (c (oq hN 21 (la hN 25 tyS23 (q 22)) (OptL.opt OptL.nil) (GuardV.plain _)) rfl (c (oq hN 21 (OpJ.val (v' := (i6 (r1.1.fASNs.length : Int))) (by simp) (OpJ.lenD underlying23 (L rfl) (q 23))) (OptL.opt OptL.nil) (GuardV.plain _)) rfl (c (oq hN 21 (OpJ.eqlI (L rfl) (q 24) (Opd.int .i64 (0))) (OptL.opt OptL.nil) (GuardV.plain _)) rfl (c (OpJ.pickAnd rfl (L rfl) (q 21) (q 25)) rfl (c (OpJ.assign (L rfl) (q 26)) rfl cn))))))))))))))) ?_
 apply AWp.ret
 obtain rfl := Option.some.inj h
 exact ⟨.inl rfl, _, _, (kp [(4, _)] [] hB rfl rfl (by rfl)), [(bo (((r1.2 == (0 : Int)) && ((r1.1.fAddrs.length : Int) == (0 : Int))) && ((r1.1.fASNs.length : Int) == (0 : Int))))], (Res.tmp (by rfl) (by rfl) Res.nil), rfl, by rfl, by rfl, by rfl⟩
noncomputable def exchangepointlaw21_ResourceJoins_L0 (a0 : api_Resources) (r5 : api_Resources × exchangepointmake_Deck) (r7 : api_Resources × exchangepointmake_Deck) (r8 : api_Resources) (s9 : Int) : Option (((Unit) ⊕ (Unit)) ⊕ (Int)) :=
 (if (decide (s9 < (([([r5.1, r7.1] : List api_Resources), ([r7.1, r5.1] : List api_Resources), ([a0, r5.1] : List api_Resources), ([r5.1, r8] : List api_Resources), ([r5.1, r5.1] : List api_Resources)] : List (List api_Resources)).length : Int))) = true then
 (idx ([([r5.1, r7.1] : List api_Resources), ([r7.1, r5.1] : List api_Resources), ([a0, r5.1] : List api_Resources), ([r5.1, r8] : List api_Resources), ([r5.1, r5.1] : List api_Resources)] : List (List api_Resources)) s9).bind fun x105 =>
 chk (decide (0 ≤ (0 : Int)) && decide ((0 : Int) < 2)) <|
 (idx x105 (0 : Int)).bind fun x107 =>
 chk (decide (0 ≤ (1 : Int)) && decide ((1 : Int) < 2)) <|
 (idx x105 (1 : Int)).bind fun x109 =>
 (resource_Union x107 x109).bind fun r110 =>
 chk (decide (0 ≤ (0 : Int)) && decide ((0 : Int) < 2)) <|
 (idx x105 (0 : Int)).bind fun x112 =>
 chk (decide (0 ≤ (1 : Int)) && decide ((1 : Int) < 2)) <|
 (idx x105 (1 : Int)).bind fun x114 =>
 (exchangepointref21_Union x112 x114).bind fun r115 =>
 chk (decide (0 ≤ (0 : Int)) && decide ((0 : Int) < 2)) <|
 (idx x105 (0 : Int)).bind fun x117 =>
 chk (decide (0 ≤ (1 : Int)) && decide ((1 : Int) < 2)) <|
 (idx x105 (1 : Int)).bind fun x119 =>
 (resource_Intersect x117 x119).bind fun r120 =>
 chk (decide (0 ≤ (0 : Int)) && decide ((0 : Int) < 2)) <|
 (idx x105 (0 : Int)).bind fun x122 =>
 chk (decide (0 ≤ (1 : Int)) && decide ((1 : Int) < 2)) <|
 (idx x105 (1 : Int)).bind fun x124 =>
 (exchangepointref21_Intersect x122 x124).bind fun r125 =>
 chk (decide (0 ≤ (0 : Int)) && decide ((0 : Int) < 2)) <|
 (idx x105 (0 : Int)).bind fun x127 =>
 chk (decide (0 ≤ (1 : Int)) && decide ((1 : Int) < 2)) <|
 (idx x105 (1 : Int)).bind fun x129 =>
 (resource_Minus x127 x129).bind fun r130 =>
 chk (decide (0 ≤ (0 : Int)) && decide ((0 : Int) < 2)) <|
 (idx x105 (0 : Int)).bind fun x132 =>
 chk (decide (0 ≤ (1 : Int)) && decide ((1 : Int) < 2)) <|
 (idx x105 (1 : Int)).bind fun x134 =>
 (exchangepointref21_Minus x132 x134).bind fun r135 =>
 jn (fun m142 : Bool =>
 (if m142 = true then
 some (.inl (.inl ()))
 else
 some (.inr (w64 (s9 + (1 : Int)))))) (fun j143 =>
 (exchangepointref21_Same r110.1 r115.1).bind fun r145 =>
 (if ((!r145) || (r110.2 != r115.2)) = true then
 j143 true
 else
 (exchangepointref21_Same r120.1 r125.1).bind fun r147 =>
 (if ((!r147) || (r120.2 != r125.2)) = true then
 j143 true
 else
 (exchangepointref21_Same r130.1 r135.1).bind fun r149 =>
 j143 ((!r149) || (r130.2 != r135.2)))))
 else
 some (.inl (.inr ())))
noncomputable def exchangepointlaw21_ResourceJoins (a0 : api_Resources) (a1 : (List Int)) (a2 : (List Int)) (a3 : Int) (a4 : Int) : Option (Bool) :=
 (exchangepointlaw21_light a0).bind fun r1 =>
 (if (!r1) = true then
 (exchangepointlaw21_awake).bind fun r3 =>
 some r3
 else
 (exchangepointmake_New a1).bind fun r4 =>
 (exchangepointmake_Deck_Resources r4).bind fun r5 =>
 (exchangepointmake_New a2).bind fun r6 =>
 (exchangepointmake_Deck_Resources r6).bind fun r7 =>
 (exchangepointlaw21_bent r7.1 a3 a4).bind fun r8 =>
 (loop (exchangepointlaw21_ResourceJoins_L0 a0 r5 r7 r8) (0 : Int)).bind fun x150 => match x150 with
 | (.inl _) =>
  some false
 | (.inr _) =>
  jn (fun m163 : Bool =>
  some m163) (fun j164 =>
  (resource_Covers r5.1 r7.1).bind fun r165 =>
  (exchangepointref21_Covers r5.1 r7.1).bind fun r166 =>
  (if (r165 == r166) = true then
  (resource_Covers r7.1 r5.1).bind fun r168 =>
  (exchangepointref21_Covers r7.1 r5.1).bind fun r169 =>
  (if (r168 == r169) = true then
  (resource_Covers r5.1 r5.1).bind fun r171 =>
  (if r171 = true then
  (exchangepointlaw21_awake).bind fun r173 =>
  j164 r173
  else
  j164 false)
  else
  j164 false)
  else
  j164 false)))
theorem exchangepointlaw21_ResourceJoins_ac (a0 : api_Resources) (a1 : (List Int)) (a2 : (List Int)) (a3 : Int) (a4 : Int) (r : Bool) (h : exchangepointlaw21_ResourceJoins a0 a1 a2 a3 a4 = some r) : AC Tryz.prog 3 [(.d (e_api_Resources a0)), (.d (.list 1 (a1.map (eI .i64)))), (.d (.list 1 (a2.map (eI .i64)))), (.d (.int .i64 a3)), (.d (.int .i64 a4))] [(500, (.know (globF 0 [50, 52, 133]))), (501, (.know (globF 1 [71, 134, 135])))] (.d (.bool r)) [(500, some (.know (globF 0 [50, 52, 133]))), (501, some (.know (globF 1 [71, 134, 135])))] := by
 refine AC.of_code2 Tryz.func3 rfl rfl (Nat.le_of_ble_eq_true (by rfl)) fun B hB hN => ?_
 have L {d : Nat} (h : Nat.blt d Tryz.f3.ntmps = true) : d < B.N := ltN hN h
 delta exchangepointlaw21_ResourceJoins at h
 refine sr (cg (OpJ.box hB (nm := 1005) (by decide) (by simp) rfl (L rfl) (q 0)) rfl (c (OpJ.assign (L rfl) (Opd.bool false)) rfl cn)) ?_
 apply AWp.seq
 obtain ⟨r1, hr1, h⟩ := bindS h
 refine sr (c (lb hN 25 _ _ tyS25 (At.here _) (q 5)) rfl (cg (cf hB fnOk5 (exchangepointlaw21_light_ac a0 r1 hr1) (L rfl) (OpdL.cons (q 27) OpdL.nil)) rfl (c (OpJ.not (L rfl) (q 28)) rfl cn))) ?_
 refine AWp.cond rfl (fun hg2 => ?_) (fun hg2 => ?_)
 ·replace h := ite_t hg2 h
  apply AWp.seq
  obtain ⟨r3, hr3, h⟩ := bindS h
  refine AWp.region (oc (OpJ.callFn hB fnOk6 (exchangepointlaw21_awake_ac  r3 hr3) [(500, 500), (501, 501)] (by kernel_rfl) (L rfl) (by kernel_rfl) OpdL.nil)
   (oc (OpJ.assign (L rfl) (ot 30 (bo r3)))
   (OpJs.nil))) (by rfl) (by rfl) ?_
  apply seqQ_n
  refine AWp.ghost (mp [] [(10, (bo r3))] [(500, some (.know (globF 0 [50, 52, 133]))), (501, some (.know (globF 1 [71, 134, 135])))] hB) ?_
  apply AWp.ret
  apply seqQ_r
  obtain rfl := Option.some.inj h
  exact ⟨.inl rfl, _, _, (kp [(10, _)] [(500, some _), (501, some _)] hB rfl rfl (by rfl)), [(bo r3)], (Res.tmp (by rfl) (by rfl) Res.nil), rfl, by rfl, by rfl, by rfl⟩
 ·replace h := ite_f hg2 h
  apply AWp.skip
  apply seqQ_n
  apply AWp.seq
  obtain ⟨r4, hr4, h⟩ := bindS h
  obtain ⟨r5, hr5, h⟩ := bindS h
  obtain ⟨r6, hr6, h⟩ := bindS h
  obtain ⟨r7, hr7, h⟩ := bindS h
  refine AWp.region (oc (mv hN (ot 1 (qI_1 a1)))
   (oc (OpJ.callFn hB fnOk7 (exchangepointmake_New_ac a1 r4 hr4) [(1005, 100200)] (by kernel_rfl) (L rfl) (by kernel_rfl) (OpdL.cons (ot 31 (qI_1 a1)) OpdL.nil))
   (oc (OpJ.callFn hB fnOk8 (exchangepointmake_Deck_Resources_ac r4 r5 hr5) [(0, 100200)] (by kernel_rfl) (L rfl) (by kernel_rfl) (OpdL.cons (ot 32 (pt 100200)) OpdL.nil))
   (oc (mv hN (ot 2 (qI_1 a2)))
   (oc (OpJ.callFn hB fnOk7 (exchangepointmake_New_ac a2 r6 hr6) [(1005, 100400)] (by kernel_rfl) (L rfl) (by kernel_rfl) (OpdL.cons (ot 34 (qI_1 a2)) OpdL.nil))
   (oc (OpJ.callFn hB fnOk8 (exchangepointmake_Deck_Resources_ac r6 r7 hr7) [(0, 100400)] (by kernel_rfl) (L rfl) (by kernel_rfl) (OpdL.cons (ot 35 (pt 100400)) OpdL.nil))
   (oc (OpJ.alloc hB tyZ25 (nm := 1011) (by decide) (L rfl))
   (oc (OpJ.alloc hB tyZ25 (nm := 1012) (by decide) (L rfl))
   (oc (OpJ.storeB (bt := 25) (c := (.st [.nils, .nils])) (v := (.d (e_api_Resources r5.1))) (c' := (.d (e_api_Resources r5.1))) tyS25 (SetAt.here _ _) (by rfl) (by rfl) (by simp) rfl (ot 11 (pt 1011)) (ot 33 (.d (e_api_Resources r5.1))))
   (oc (OpJ.storeB (bt := 25) (c := (.st [.nils, .nils])) (v := (.d (e_api_Resources r7.1))) (c' := (.d (e_api_Resources r7.1))) tyS25 (SetAt.here _ _) (by rfl) (by rfl) (by simp) rfl (ot 12 (pt 1012)) (ot 36 (.d (e_api_Resources r7.1))))
   (OpJs.nil))))))))))) (by rfl) (by rfl) ?_
  apply seqQ_n
  refine AWp.ghost (mp [] [(3, (i6 a3)), (4, (i6 a4)), (5, (pt 1005)), (11, (pt 1011)), (12, (pt 1012))] [(500, some (.know (globF 0 [50, 52, 133]))), (501, some (.know (globF 1 [71, 134, 135]))), (1005, bd 25 (e_api_Resources a0)), (1011, bd 25 (e_api_Resources r5.1)), (1012, bd 25 (e_api_Resources r7.1))] hB) ?_
  apply AWp.seq
  obtain ⟨r8, hr8, h⟩ := bindS h
  refine sd (c (lb hN 25 _ _ tyS25 (At.here _) (q 11)) rfl (c (lb hN 25 _ _ tyS25 (At.here _) (q 12)) rfl (cg (OpJ.buildArr (n := 2) (z := (.st [(.list 6 (([] : List api_Range).map e_api_Range)), (.list 2 (([] : List api_Span).map e_api_Span))])) underlying32 tyS25 tyZ32 (Opds.cons (q 37) (Opds.cons (q 38) Opds.nil)) (by kernel_rfl) (es := ([(e_api_Resources r5.1), (e_api_Resources r7.1)] : List D)) (by rfl) (by rfl) (by kernel_rfl) (by simp) (L rfl)) rfl (c (lb hN 25 _ _ tyS25 (At.here _) (q 12)) rfl (c (lb hN 25 _ _ tyS25 (At.here _) (q 11)) rfl (cg (OpJ.buildArr (n := 2) (z := (.st [(.list 6 (([] : List api_Range).map e_api_Range)), (.list 2 (([] : List api_Span).map e_api_Span))])) underlying32 tyS25 tyZ32 (Opds.cons (q 40) (Opds.cons (q 41) Opds.nil)) (by kernel_rfl) (es := ([(e_api_Resources r7.1), (e_api_Resources r5.1)] : List D)) (by rfl) (by rfl) (by kernel_rfl) (by simp) (L rfl)) rfl (c (lb hN 25 _ _ tyS25 (At.here _) (q 5)) rfl (c (lb hN 25 _ _ tyS25 (At.here _) (q 11)) rfl (cg (OpJ.buildArr (n := 2) (z := (.st [(.list 6 (([] : List api_Range).map e_api_Range)), (.list 2 (([] : List api_Span).map e_api_Span))])) underlying32 tyS25 tyZ32 (Opds.cons (q 43) (Opds.cons (q 44) Opds.nil)) (by kernel_rfl) (es := ([(e_api_Resources a0), (e_api_Resources r5.1)] : List D)) (by rfl) (by rfl) (by kernel_rfl) (by simp) (L rfl)) rfl (c (lb hN 25 _ _ tyS25 (At.here _) (q 11)) rfl (c (lb hN 25 _ _ tyS25 (At.here _) (q 12)) rfl (c (mv hN (q 3)) rfl (c (mv hN (q 4)) rfl (cg (cf hB fnOk9 (exchangepointlaw21_bent_ac r7.1 a3 a4 r8 hr8) (L rfl) (OpdL.cons (q 47) (OpdL.cons (q 48) (OpdL.cons (q 49) OpdL.nil)))) rfl (cg (OpJ.buildArr (n := 2) (z := (.st [(.list 6 (([] : List api_Range).map e_api_Range)), (.list 2 (([] : List api_Span).map e_api_Span))])) underlying32 tyS25 tyZ32 (Opds.cons (q 46) (Opds.cons (q 50) Opds.nil)) (by kernel_rfl) (es := ([(e_api_Resources r5.1), (e_api_Resources r8)] : List D)) (by rfl) (by rfl) (by kernel_rfl) (by simp) (L rfl)) rfl (c (lb hN 25 _ _ tyS25 (At.here _) (q 11)) rfl (c (lb hN 25 _ _ tyS25 (At.here _) (q 11)) rfl (cg (OpJ.buildArr (n := 2) (z := (.st [(.list 6 (([] : List api_Range).map e_api_Range)), (.list 2 (([] : List api_Span).map e_api_Span))])) underlying32 tyS25 tyZ32 (Opds.cons (q 52) (Opds.cons (q 53) Opds.nil)) (by kernel_rfl) (es := ([(e_api_Resources r5.1), (e_api_Resources r5.1)] : List D)) (by rfl) (by rfl) (by kernel_rfl) (by simp) (L rfl)) rfl (c (OpJ.buildSlice underlying34 tyS32 tyZD32 (by rfl) (by decide) (by decide) (Opds.cons (q 39) (Opds.cons (q 42) (Opds.cons (q 45) (Opds.cons (q 51) (Opds.cons (q 54) Opds.nil))))) (by kernel_rfl) (es := ([(.arr 2 2 (([r5.1, r7.1] : List api_Resources).map e_api_Resources)), (.arr 2 2 (([r7.1, r5.1] : List api_Resources).map e_api_Resources)), (.arr 2 2 (([a0, r5.1] : List api_Resources).map e_api_Resources)), (.arr 2 2 (([r5.1, r8] : List api_Resources).map e_api_Resources)), (.arr 2 2 (([r5.1, r5.1] : List api_Resources).map e_api_Resources))] : List D)) (by rfl) (by rfl) (by kernel_rfl) (by simp) (L rfl)) rfl (c (OpJ.val (v' := (i6 (([([r5.1, r7.1] : List api_Resources), ([r7.1, r5.1] : List api_Resources), ([a0, r5.1] : List api_Resources), ([r5.1, r8] : List api_Resources), ([r5.1, r5.1] : List api_Resources)] : List (List api_Resources)).length : Int))) (by simp) (OpJ.lenD underlying34 (L rfl) (q 55))) rfl (c (mv hN (Opd.int .i64 (0))) rfl cn))))))))))))))))))))) (by kernel_rfl) (by kernel_rfl) ?_
  apply AWp.block
  obtain ⟨x150, hx151, h⟩ := bindS h
  refine lg (exchangepointlaw21_ResourceJoins_L0 a0 r5 r7 r8) (fun s9 : Int => ([(11, (pt 1011)), (12, (pt 1012)), (55, (.d (.list 4 (([([r5.1, r7.1] : List api_Resources), ([r7.1, r5.1] : List api_Resources), ([a0, r5.1] : List api_Resources), ([r5.1, r8] : List api_Resources), ([r5.1, r5.1] : List api_Resources)] : List (List api_Resources)).map e_A2eapiResources)))), (56, (i6 (([([r5.1, r7.1] : List api_Resources), ([r7.1, r5.1] : List api_Resources), ([a0, r5.1] : List api_Resources), ([r5.1, r8] : List api_Resources), ([r5.1, r5.1] : List api_Resources)] : List (List api_Resources)).length : Int))), (57, (i6 s9))] : EL)) (fun s9 : Int => ([(500, some (.know (globF 0 [50, 52, 133]))), (501, some (.know (globF 1 [71, 134, 135]))), (1011, bd 25 (e_api_Resources r5.1)), (1012, bd 25 (e_api_Resources r7.1))] : OL)) (fun (x : (Unit) ⊕ (Unit)) e E' O' => match x with | (.inl _p) => e = .ret ∧ Mat B E' O' ([(10, (bo false))] : EL) ([(500, some (.know (globF 0 [50, 52, 133]))), (501, some (.know (globF 1 [71, 134, 135])))] : OL) | (.inr _p) => e = .exit 0 ∧ Mat B E' O' ([(11, (pt 1011)), (12, (pt 1012))] : EL) ([(500, some (.know (globF 0 [50, 52, 133]))), (501, some (.know (globF 1 [71, 134, 135]))), (1011, bd 25 (e_api_Resources r5.1)), (1012, bd 25 (e_api_Resources r7.1))] : OL)) hx151 (mp [] _ _ hB) (fun s9 y h => ?_) (fun e E' O' hR => ?_)
  ·unfold exchangepointlaw21_ResourceJoins_L0 at h
   refine sr (c (OpJ.lss (L rfl) (q 57) (q 56)) rfl cn) ?_
   apply AWp.seq
   refine AWp.cond rfl (fun hg104 => ?_) (fun hg104 => ?_)
   ·replace h := ite_t hg104 h
    apply AWp.skip
    apply seqQ_n
    apply AWp.seq
    apply AWp.block
    obtain ⟨x105, hx105, h⟩ := bindS h
    refine sr (c (OpJ.indexD underlying34 tyS32 (idx_some hx105).1 (get_map e_A2eapiResources (idx_some hx105).2) (L rfl) (q 55) (q 57)) rfl (c (OpJ.loadD tyS32 (by rfl) (by rfl) (L rfl) (q 59)) rfl (cg (OpJ.alloc hB tyZ32 (nm := 1014) (by decide) (L rfl)) rfl (cg (sB tyS32 (q 14) (q 60)) rfl cn)))) ?_
    apply AWp.seq
    obtain ⟨hc106, h⟩ := chk_some h
    obtain ⟨x107, hx107, h⟩ := bindS h
    obtain ⟨hc108, h⟩ := chk_some h
    obtain ⟨x109, hx109, h⟩ := bindS h
    obtain ⟨r110, hr110, h⟩ := bindS h
    refine AWp.region (oc (ov (.ptr 1014 (0 + 0 * 2) [0]) (OpJ.indexPA underlying32 tyS25 (obj := (.box 32 (.d (.arr 2 2 (x105.map e_api_Resources))))) (and_l hc106) (and_r hc106) (L rfl) (ot 14 (pt 1014)) (Opd.int .i64 (0))))
     (oc (lb hN 32 (.d (.arr 2 2 (x105.map e_api_Resources))) (.d (e_api_Resources x107)) tyS25 (At.arr1 e_api_Resources (idx_some hx107).2 (At.here _) (by first | rfl | omega)) (ot 62 (.ptr 1014 (0 + 0 * 2) [0])))
     (oc (ov (.ptr 1014 (0 + 1 * 2) [1]) (OpJ.indexPA underlying32 tyS25 (obj := (.box 32 (.d (.arr 2 2 (x105.map e_api_Resources))))) (and_l hc108) (and_r hc108) (L rfl) (ot 14 (pt 1014)) (Opd.int .i64 (1))))
     (oc (lb hN 32 (.d (.arr 2 2 (x105.map e_api_Resources))) (.d (e_api_Resources x109)) tyS25 (At.arr1 e_api_Resources (idx_some hx109).2 (At.here _) (by first | rfl | omega)) (ot 64 (.ptr 1014 (0 + 1 * 2) [1])))
     (oc (OpJ.callFn hB fnOk10 (resource_Union_ac x107 x109 r110 hr110) [(500, 500), (501, 501)] (by kernel_rfl) (L rfl) (by kernel_rfl) (OpdL.cons (ot 63 (.d (e_api_Resources x107))) (OpdL.cons (ot 65 (.d (e_api_Resources x109))) OpdL.nil)))
     (oc (mv hN (ot 66 (.tup [(.d (e_api_Resources r110.1)), (i6 r110.2)])))
     (oc (OpJ.extract (v := (.d (e_api_Resources r110.1))) (by rfl) rfl (L rfl) (ot 61 (.tup [(.d (e_api_Resources r110.1)), (i6 r110.2)])))
     (oc (OpJ.extract (v := (i6 r110.2)) (by rfl) rfl (L rfl) (ot 61 (.tup [(.d (e_api_Resources r110.1)), (i6 r110.2)])))
     (oc (OpJ.alloc hB tyZ25 (nm := 1015) (by decide) (L rfl))
     (oc (OpJ.storeB (bt := 25) (c := (.st [.nils, .nils])) (v := (.d (e_api_Resources r110.1))) (c' := (.d (e_api_Resources r110.1))) tyS25 (SetAt.here _ _) (by rfl) (by rfl) (by simp) rfl (ot 15 (pt 1015)) (ot 67 (.d (e_api_Resources r110.1))))
     (oc (OpJ.assign (L rfl) (ot 68 (i6 r110.2)))
     (OpJs.nil)))))))))))) (by rfl) (by rfl) ?_
    apply seqQ_n
    refine AWp.ghost (mp [] [(11, (pt 1011)), (12, (pt 1012)), (14, (pt 1014)), (15, (pt 1015)), (16, (i6 r110.2)), (55, (.d (.list 4 (([([r5.1, r7.1] : List api_Resources), ([r7.1, r5.1] : List api_Resources), ([a0, r5.1] : List api_Resources), ([r5.1, r8] : List api_Resources), ([r5.1, r5.1] : List api_Resources)] : List (List api_Resources)).map e_A2eapiResources)))), (56, (i6 (([([r5.1, r7.1] : List api_Resources), ([r7.1, r5.1] : List api_Resources), ([a0, r5.1] : List api_Resources), ([r5.1, r8] : List api_Resources), ([r5.1, r5.1] : List api_Resources)] : List (List api_Resources)).length : Int))), (57, (i6 s9))] [(500, some (.know (globF 0 [50, 52, 133]))), (501, some (.know (globF 1 [71, 134, 135]))), (1011, bd 25 (e_api_Resources r5.1)), (1012, bd 25 (e_api_Resources r7.1)), (1014, bd 32 (.arr 2 2 (x105.map e_api_Resources))), (1015, bd 25 (e_api_Resources r110.1))] hB) ?_
    obtain ⟨hc111, h⟩ := chk_some h
    obtain ⟨x112, hx112, h⟩ := bindS h
    obtain ⟨hc113, h⟩ := chk_some h
    obtain ⟨x114, hx114, h⟩ := bindS h
    obtain ⟨r115, hr115, h⟩ := bindS h
    refine sr (c (ov (.ptr 1014 (0 + 0 * 2) [0]) (OpJ.indexPA underlying32 tyS25 (and_l hc111) (and_r hc111) (L rfl) (q 14) (Opd.int .i64 (0)))) rfl (c (lb hN 32 _ _ tyS25 (At.arr1 e_api_Resources (idx_some hx112).2 (At.here _) (by first | rfl | omega)) (q 70)) rfl (c (ov (.ptr 1014 (0 + 1 * 2) [1]) (OpJ.indexPA underlying32 tyS25 (and_l hc113) (and_r hc113) (L rfl) (q 14) (Opd.int .i64 (1)))) rfl (c (lb hN 32 _ _ tyS25 (At.arr1 e_api_Resources (idx_some hx114).2 (At.here _) (by first | rfl | omega)) (q 72)) rfl (cg (cf hB fnOk11 (exchangepointref21_Union_ac x112 x114 r115 hr115) (L rfl) (OpdL.cons (q 71) (OpdL.cons (q 73) OpdL.nil))) rfl (c (mv hN (q 74)) rfl (c (OpJ.extract (by rfl) rfl (L rfl) (q 69)) rfl (c (OpJ.extract (by rfl) rfl (L rfl) (q 69)) rfl (cg (OpJ.alloc hB tyZ25 (nm := 1017) (by decide) (L rfl)) rfl (cg (sB tyS25 (q 17) (q 75)) rfl (c (OpJ.assign (L rfl) (q 76)) rfl cn))))))))))) ?_
    apply AWp.seq
    obtain ⟨hc116, h⟩ := chk_some h
    obtain ⟨x117, hx117, h⟩ := bindS h
    obtain ⟨hc118, h⟩ := chk_some h
    obtain ⟨x119, hx119, h⟩ := bindS h
    obtain ⟨r120, hr120, h⟩ := bindS h
    refine AWp.region (oc (ov (.ptr 1014 (0 + 0 * 2) [0]) (OpJ.indexPA underlying32 tyS25 (obj := (.box 32 (.d (.arr 2 2 (x105.map e_api_Resources))))) (and_l hc116) (and_r hc116) (L rfl) (ot 14 (pt 1014)) (Opd.int .i64 (0))))
     (oc (lb hN 32 (.d (.arr 2 2 (x105.map e_api_Resources))) (.d (e_api_Resources x117)) tyS25 (At.arr1 e_api_Resources (idx_some hx117).2 (At.here _) (by first | rfl | omega)) (ot 78 (.ptr 1014 (0 + 0 * 2) [0])))
     (oc (ov (.ptr 1014 (0 + 1 * 2) [1]) (OpJ.indexPA underlying32 tyS25 (obj := (.box 32 (.d (.arr 2 2 (x105.map e_api_Resources))))) (and_l hc118) (and_r hc118) (L rfl) (ot 14 (pt 1014)) (Opd.int .i64 (1))))
     (oc (lb hN 32 (.d (.arr 2 2 (x105.map e_api_Resources))) (.d (e_api_Resources x119)) tyS25 (At.arr1 e_api_Resources (idx_some hx119).2 (At.here _) (by first | rfl | omega)) (ot 80 (.ptr 1014 (0 + 1 * 2) [1])))
     (oc (OpJ.callFn hB fnOk12 (resource_Intersect_ac x117 x119 r120 hr120) [(500, 500), (501, 501)] (by kernel_rfl) (L rfl) (by kernel_rfl) (OpdL.cons (ot 79 (.d (e_api_Resources x117))) (OpdL.cons (ot 81 (.d (e_api_Resources x119))) OpdL.nil)))
     (oc (mv hN (ot 82 (.tup [(.d (e_api_Resources r120.1)), (i6 r120.2)])))
     (oc (OpJ.extract (v := (.d (e_api_Resources r120.1))) (by rfl) rfl (L rfl) (ot 77 (.tup [(.d (e_api_Resources r120.1)), (i6 r120.2)])))
     (oc (OpJ.extract (v := (i6 r120.2)) (by rfl) rfl (L rfl) (ot 77 (.tup [(.d (e_api_Resources r120.1)), (i6 r120.2)])))
     (oc (OpJ.alloc hB tyZ25 (nm := 1019) (by decide) (L rfl))
     (oc (OpJ.storeB (bt := 25) (c := (.st [.nils, .nils])) (v := (.d (e_api_Resources r120.1))) (c' := (.d (e_api_Resources r120.1))) tyS25 (SetAt.here _ _) (by rfl) (by rfl) (by simp) rfl (ot 19 (pt 1019)) (ot 83 (.d (e_api_Resources r120.1))))
     (oc (OpJ.assign (L rfl) (ot 84 (i6 r120.2)))
     (OpJs.nil)))))))))))) (by rfl) (by rfl) ?_
    apply seqQ_n
    refine AWp.ghost (mp [] [(11, (pt 1011)), (12, (pt 1012)), (14, (pt 1014)), (15, (pt 1015)), (16, (i6 r110.2)), (17, (pt 1017)), (18, (i6 r115.2)), (19, (pt 1019)), (20, (i6 r120.2)), (55, (.d (.list 4 (([([r5.1, r7.1] : List api_Resources), ([r7.1, r5.1] : List api_Resources), ([a0, r5.1] : List api_Resources), ([r5.1, r8] : List api_Resources), ([r5.1, r5.1] : List api_Resources)] : List (List api_Resources)).map e_A2eapiResources)))), (56, (i6 (([([r5.1, r7.1] : List api_Resources), ([r7.1, r5.1] : List api_Resources), ([a0, r5.1] : List api_Resources), ([r5.1, r8] : List api_Resources), ([r5.1, r5.1] : List api_Resources)] : List (List api_Resources)).length : Int))), (57, (i6 s9))] [(500, some (.know (globF 0 [50, 52, 133]))), (501, some (.know (globF 1 [71, 134, 135]))), (1011, bd 25 (e_api_Resources r5.1)), (1012, bd 25 (e_api_Resources r7.1)), (1014, bd 32 (.arr 2 2 (x105.map e_api_Resources))), (1015, bd 25 (e_api_Resources r110.1)), (1017, bd 25 (e_api_Resources r115.1)), (1019, bd 25 (e_api_Resources r120.1))] hB) ?_
    obtain ⟨hc121, h⟩ := chk_some h
    obtain ⟨x122, hx122, h⟩ := bindS h
    obtain ⟨hc123, h⟩ := chk_some h
    obtain ⟨x124, hx124, h⟩ := bindS h
    obtain ⟨r125, hr125, h⟩ := bindS h
    refine sr (c (ov (.ptr 1014 (0 + 0 * 2) [0]) (OpJ.indexPA underlying32 tyS25 (and_l hc121) (and_r hc121) (L rfl) (q 14) (Opd.int .i64 (0)))) rfl (c (lb hN 32 _ _ tyS25 (At.arr1 e_api_Resources (idx_some hx122).2 (At.here _) (by first | rfl | omega)) (q 86)) rfl (c (ov (.ptr 1014 (0 + 1 * 2) [1]) (OpJ.indexPA underlying32 tyS25 (and_l hc123) (and_r hc123) (L rfl) (q 14) (Opd.int .i64 (1)))) rfl (c (lb hN 32 _ _ tyS25 (At.arr1 e_api_Resources (idx_some hx124).2 (At.here _) (by first | rfl | omega)) (q 88)) rfl (cg (cf hB fnOk13 (exchangepointref21_Intersect_ac x122 x124 r125 hr125) (L rfl) (OpdL.cons (q 87) (OpdL.cons (q 89) OpdL.nil))) rfl (c (mv hN (q 90)) rfl (c (OpJ.extract (by rfl) rfl (L rfl) (q 85)) rfl (c (OpJ.extract (by rfl) rfl (L rfl) (q 85)) rfl (cg (OpJ.alloc hB tyZ25 (nm := 1021) (by decide) (L rfl)) rfl (cg (sB tyS25 (q 21) (q 91)) rfl (c (OpJ.assign (L rfl) (q 92)) rfl cn))))))))))) ?_
    apply AWp.seq
    obtain ⟨hc126, h⟩ := chk_some h
    obtain ⟨x127, hx127, h⟩ := bindS h
    obtain ⟨hc128, h⟩ := chk_some h
    obtain ⟨x129, hx129, h⟩ := bindS h
    obtain ⟨r130, hr130, h⟩ := bindS h
    refine AWp.region (oc (ov (.ptr 1014 (0 + 0 * 2) [0]) (OpJ.indexPA underlying32 tyS25 (obj := (.box 32 (.d (.arr 2 2 (x105.map e_api_Resources))))) (and_l hc126) (and_r hc126) (L rfl) (ot 14 (pt 1014)) (Opd.int .i64 (0))))
     (oc (lb hN 32 (.d (.arr 2 2 (x105.map e_api_Resources))) (.d (e_api_Resources x127)) tyS25 (At.arr1 e_api_Resources (idx_some hx127).2 (At.here _) (by first | rfl | omega)) (ot 94 (.ptr 1014 (0 + 0 * 2) [0])))
     (oc (ov (.ptr 1014 (0 + 1 * 2) [1]) (OpJ.indexPA underlying32 tyS25 (obj := (.box 32 (.d (.arr 2 2 (x105.map e_api_Resources))))) (and_l hc128) (and_r hc128) (L rfl) (ot 14 (pt 1014)) (Opd.int .i64 (1))))
     (oc (lb hN 32 (.d (.arr 2 2 (x105.map e_api_Resources))) (.d (e_api_Resources x129)) tyS25 (At.arr1 e_api_Resources (idx_some hx129).2 (At.here _) (by first | rfl | omega)) (ot 96 (.ptr 1014 (0 + 1 * 2) [1])))
     (oc (OpJ.callFn hB fnOk14 (resource_Minus_ac x127 x129 r130 hr130) [(500, 500), (501, 501)] (by kernel_rfl) (L rfl) (by kernel_rfl) (OpdL.cons (ot 95 (.d (e_api_Resources x127))) (OpdL.cons (ot 97 (.d (e_api_Resources x129))) OpdL.nil)))
     (oc (mv hN (ot 98 (.tup [(.d (e_api_Resources r130.1)), (i6 r130.2)])))
     (oc (OpJ.extract (v := (.d (e_api_Resources r130.1))) (by rfl) rfl (L rfl) (ot 93 (.tup [(.d (e_api_Resources r130.1)), (i6 r130.2)])))
     (oc (OpJ.extract (v := (i6 r130.2)) (by rfl) rfl (L rfl) (ot 93 (.tup [(.d (e_api_Resources r130.1)), (i6 r130.2)])))
     (oc (OpJ.alloc hB tyZ25 (nm := 1023) (by decide) (L rfl))
     (oc (OpJ.storeB (bt := 25) (c := (.st [.nils, .nils])) (v := (.d (e_api_Resources r130.1))) (c' := (.d (e_api_Resources r130.1))) tyS25 (SetAt.here _ _) (by rfl) (by rfl) (by simp) rfl (ot 23 (pt 1023)) (ot 99 (.d (e_api_Resources r130.1))))
     (oc (OpJ.assign (L rfl) (ot 100 (i6 r130.2)))
     (OpJs.nil)))))))))))) (by rfl) (by rfl) ?_
    apply seqQ_n
    refine AWp.ghost (mp [] [(11, (pt 1011)), (12, (pt 1012)), (14, (pt 1014)), (15, (pt 1015)), (16, (i6 r110.2)), (17, (pt 1017)), (18, (i6 r115.2)), (19, (pt 1019)), (20, (i6 r120.2)), (21, (pt 1021)), (22, (i6 r125.2)), (23, (pt 1023)), (24, (i6 r130.2)), (55, (.d (.list 4 (([([r5.1, r7.1] : List api_Resources), ([r7.1, r5.1] : List api_Resources), ([a0, r5.1] : List api_Resources), ([r5.1, r8] : List api_Resources), ([r5.1, r5.1] : List api_Resources)] : List (List api_Resources)).map e_A2eapiResources)))), (56, (i6 (([([r5.1, r7.1] : List api_Resources), ([r7.1, r5.1] : List api_Resources), ([a0, r5.1] : List api_Resources), ([r5.1, r8] : List api_Resources), ([r5.1, r5.1] : List api_Resources)] : List (List api_Resources)).length : Int))), (57, (i6 s9))] [(500, some (.know (globF 0 [50, 52, 133]))), (501, some (.know (globF 1 [71, 134, 135]))), (1011, bd 25 (e_api_Resources r5.1)), (1012, bd 25 (e_api_Resources r7.1)), (1014, bd 32 (.arr 2 2 (x105.map e_api_Resources))), (1015, bd 25 (e_api_Resources r110.1)), (1017, bd 25 (e_api_Resources r115.1)), (1019, bd 25 (e_api_Resources r120.1)), (1021, bd 25 (e_api_Resources r125.1)), (1023, bd 25 (e_api_Resources r130.1))] hB) ?_
    obtain ⟨hc131, h⟩ := chk_some h
    obtain ⟨x132, hx132, h⟩ := bindS h
    obtain ⟨hc133, h⟩ := chk_some h
    obtain ⟨x134, hx134, h⟩ := bindS h
    obtain ⟨r135, hr135, h⟩ := bindS h
    refine sr (c (ov (.ptr 1014 (0 + 0 * 2) [0]) (OpJ.indexPA underlying32 tyS25 (and_l hc131) (and_r hc131) (L rfl) (q 14) (Opd.int .i64 (0)))) rfl (c (lb hN 32 _ _ tyS25 (At.arr1 e_api_Resources (idx_some hx132).2 (At.here _) (by first | rfl | omega)) (q 102)) rfl (c (ov (.ptr 1014 (0 + 1 * 2) [1]) (OpJ.indexPA underlying32 tyS25 (and_l hc133) (and_r hc133) (L rfl) (q 14) (Opd.int .i64 (1)))) rfl (c (lb hN 32 _ _ tyS25 (At.arr1 e_api_Resources (idx_some hx134).2 (At.here _) (by first | rfl | omega)) (q 104)) rfl (cg (cf hB fnOk15 (exchangepointref21_Minus_ac x132 x134 r135 hr135) (L rfl) (OpdL.cons (q 103) (OpdL.cons (q 105) OpdL.nil))) rfl (c (mv hN (q 106)) rfl (c (OpJ.extract (by rfl) rfl (L rfl) (q 101)) rfl (c (OpJ.extract (by rfl) rfl (L rfl) (q 101)) rfl (cg (OpJ.alloc hB tyZ25 (nm := 1025) (by decide) (L rfl)) rfl (cg (sB tyS25 (q 25) (q 107)) rfl (c (OpJ.assign (L rfl) (q 108)) rfl cn))))))))))) ?_
    apply AWp.seq
    refine AWp.cut h (fun m142 : Bool => ([(11, (pt 1011)), (12, (pt 1012)), (55, (.d (.list 4 (([([r5.1, r7.1] : List api_Resources), ([r7.1, r5.1] : List api_Resources), ([a0, r5.1] : List api_Resources), ([r5.1, r8] : List api_Resources), ([r5.1, r5.1] : List api_Resources)] : List (List api_Resources)).map e_A2eapiResources)))), (56, (i6 (([([r5.1, r7.1] : List api_Resources), ([r7.1, r5.1] : List api_Resources), ([a0, r5.1] : List api_Resources), ([r5.1, r8] : List api_Resources), ([r5.1, r5.1] : List api_Resources)] : List (List api_Resources)).length : Int))), (57, (i6 s9)), (139, (bo m142))] : EL)) (fun m142 : Bool => ([(500, some (.know (globF 0 [50, 52, 133]))), (501, some (.know (globF 1 [71, 134, 135]))), (1011, bd 25 (e_api_Resources r5.1)), (1012, bd 25 (e_api_Resources r7.1))] : OL)) (fun m142 h E' O' hmat => ?_) (fun j143 hjj143 h => ?_)
    ·apply seqQ_n
     refine AWp.ghost hmat ?_
     refine AWp.cond rfl (fun hg144 => ?_) (fun hg144 => ?_)
     ·replace h := ite_t hg144 h
      refine sr (c (OpJ.assign (L rfl) (Opd.bool false)) rfl cn) ?_
      apply AWp.ret
      apply blkQ_r
      apply seqQ_r
      obtain rfl := Option.some.inj h
      exact ⟨(fun hc => by cases hc), rfl, (mp [] _ _ hB)⟩
     ·replace h := ite_f hg144 h
      apply AWp.skip
      apply blkQ_n
      apply seqQ_n
      refine rg (c (add6 (L rfl) (q 57) (Opd.int .i64 (1))) rfl (c (mv hN (q 140)) rfl cn)) ?_
      obtain rfl := Option.some.inj h
      exact ⟨rfl, (mp [] _ _ hB)⟩
    ·obtain ⟨r145, hr145, h⟩ := bindS h
     rcases Bool.eq_false_or_eq_true ((!r145) || (r110.2 != r115.2)) with hg146 | hg146
     ·replace h := ite_t hg146 h
      refine rg (c (lb hN 25 _ _ tyS25 (At.here _) (q 15)) rfl (c (lb hN 25 _ _ tyS25 (At.here _) (q 17)) rfl (cg (cf hB fnOk16 (exchangepointref21_Same_ac r110.1 r115.1 r145 hr145) (L rfl) (OpdL.cons (q 109) (OpdL.cons (q 110) OpdL.nil))) rfl (c (OpJ.not (L rfl) (q 111)) rfl (c (mv hN (q 112)) rfl (c (oq hN 113 (mv hN (q 16)) (OptL.keep (by rfl) OptL.nil) (GuardV.plain _)) rfl (c (oq hN 113 (mv hN (q 18)) (OptL.keep (by rfl) OptL.nil) (GuardV.plain _)) rfl (c (oq hN 113 (OpJ.neqI (L rfl) (q 114) (q 115)) (OptL.opt (OptL.opt OptL.nil)) (GuardV.plain _)) rfl (c (OpJ.pickOr rfl (L rfl) (q 113) (q 116)) rfl (c (OpJ.val (v' := .d (.bool true)) (by rw [hg146] <;> rfl) (mv hN (q 117))) rfl (cg (sU 118 (L rfl)) rfl (cg (sU 118 (L rfl)) rfl (cg (sU 118 (L rfl)) rfl (cg (sU 118 (L rfl)) rfl (c (OpJ.pickT (L rfl) (q 118) (Opd.bool true)) rfl (c (mv hN (q 123)) rfl (cg (sU 124 (L rfl)) rfl (cg (sU 124 (L rfl)) rfl (cg (sU 124 (L rfl)) rfl (c (OpJ.pickT (L rfl) (q 124) (Opd.bool true)) rfl (c (mv hN (q 128)) rfl (cg (sU 129 (L rfl)) rfl (cg (sU 129 (L rfl)) rfl (cg (sU 129 (L rfl)) rfl (cg (sU 129 (L rfl)) rfl (c (OpJ.pickT (L rfl) (q 129) (Opd.bool true)) rfl (c (mv hN (q 134)) rfl (cg (sU 135 (L rfl)) rfl (cg (sU 135 (L rfl)) rfl (cg (sU 135 (L rfl)) rfl (c (OpJ.pickT (L rfl) (q 135) (Opd.bool true)) rfl cn))))))))))))))))))))))))))))))) ?_
      exact hjj143 _ h _ _ (mp [] _ _ hB)
     ·replace h := ite_f hg146 h
      obtain ⟨r147, hr147, h⟩ := bindS h
      rcases Bool.eq_false_or_eq_true ((!r147) || (r120.2 != r125.2)) with hg148 | hg148
      ·replace h := ite_t hg148 h
       refine rg (c (lb hN 25 _ _ tyS25 (At.here _) (q 15)) rfl (c (lb hN 25 _ _ tyS25 (At.here _) (q 17)) rfl (cg (cf hB fnOk16 (exchangepointref21_Same_ac r110.1 r115.1 r145 hr145) (L rfl) (OpdL.cons (q 109) (OpdL.cons (q 110) OpdL.nil))) rfl (c (OpJ.not (L rfl) (q 111)) rfl (c (mv hN (q 112)) rfl (c (oq hN 113 (mv hN (q 16)) (OptL.keep (by rfl) OptL.nil) (GuardV.plain _)) rfl (c (oq hN 113 (mv hN (q 18)) (OptL.keep (by rfl) OptL.nil) (GuardV.plain _)) rfl (c (oq hN 113 (OpJ.neqI (L rfl) (q 114) (q 115)) (OptL.opt (OptL.opt OptL.nil)) (GuardV.plain _)) rfl (c (OpJ.pickOr rfl (L rfl) (q 113) (q 116)) rfl (c (OpJ.val (v' := .d (.bool false)) (by rw [hg146] <;> rfl) (mv hN (q 117))) rfl (c (gd 118 (lb hN 25 _ _ tyS25 (At.here _) (q 19))) rfl (c (gd 118 (lb hN 25 _ _ tyS25 (At.here _) (q 21))) rfl (cg (gd 118 (cf hB fnOk16 (exchangepointref21_Same_ac r120.1 r125.1 r147 hr147) (L rfl) (OpdL.cons (q 119) (OpdL.cons (q 120) OpdL.nil)))) rfl (c (gd 118 (OpJ.not (L rfl) (q 121))) rfl (c (OpJ.pickF (L rfl) (q 118) (q 122)) rfl (c (mv hN (q 123)) rfl (c (oq hN 124 (mv hN (q 20)) (OptL.keep (by rfl) OptL.nil) (GuardV.plain _)) rfl (c (oq hN 124 (mv hN (q 22)) (OptL.keep (by rfl) OptL.nil) (GuardV.plain _)) rfl (c (oq hN 124 (OpJ.neqI (L rfl) (q 125) (q 126)) (OptL.opt (OptL.opt OptL.nil)) (GuardV.plain _)) rfl (c (OpJ.pickOr rfl (L rfl) (q 124) (q 127)) rfl (c (OpJ.val (v' := .d (.bool true)) (by rw [hg148] <;> rfl) (mv hN (q 128))) rfl (cg (sU 129 (L rfl)) rfl (cg (sU 129 (L rfl)) rfl (cg (sU 129 (L rfl)) rfl (cg (sU 129 (L rfl)) rfl (c (OpJ.pickT (L rfl) (q 129) (Opd.bool true)) rfl (c (mv hN (q 134)) rfl (cg (sU 135 (L rfl)) rfl (cg (sU 135 (L rfl)) rfl (cg (sU 135 (L rfl)) rfl (c (OpJ.pickT (L rfl) (q 135) (Opd.bool true)) rfl cn))))))))))))))))))))))))))))))) ?_
       exact hjj143 _ h _ _ (mp [] _ _ hB)
      ·replace h := ite_f hg148 h
       obtain ⟨r149, hr149, h⟩ := bindS h
       refine rg (c (lb hN 25 _ _ tyS25 (At.here _) (q 15)) rfl (c (lb hN 25 _ _ tyS25 (At.here _) (q 17)) rfl (cg (cf hB fnOk16 (exchangepointref21_Same_ac r110.1 r115.1 r145 hr145) (L rfl) (OpdL.cons (q 109) (OpdL.cons (q 110) OpdL.nil))) rfl (c (OpJ.not (L rfl) (q 111)) rfl (c (mv hN (q 112)) rfl (c (oq hN 113 (mv hN (q 16)) (OptL.keep (by rfl) OptL.nil) (GuardV.plain _)) rfl (c (oq hN 113 (mv hN (q 18)) (OptL.keep (by rfl) OptL.nil) (GuardV.plain _)) rfl (c (oq hN 113 (OpJ.neqI (L rfl) (q 114) (q 115)) (OptL.opt (OptL.opt OptL.nil)) (GuardV.plain _)) rfl (c (OpJ.pickOr rfl (L rfl) (q 113) (q 116)) rfl (c (OpJ.val (v' := .d (.bool false)) (by rw [hg146] <;> rfl) (mv hN (q 117))) rfl (c (gd 118 (lb hN 25 _ _ tyS25 (At.here _) (q 19))) rfl (c (gd 118 (lb hN 25 _ _ tyS25 (At.here _) (q 21))) rfl (cg (gd 118 (cf hB fnOk16 (exchangepointref21_Same_ac r120.1 r125.1 r147 hr147) (L rfl) (OpdL.cons (q 119) (OpdL.cons (q 120) OpdL.nil)))) rfl (c (gd 118 (OpJ.not (L rfl) (q 121))) rfl (c (OpJ.pickF (L rfl) (q 118) (q 122)) rfl (c (mv hN (q 123)) rfl (c (oq hN 124 (mv hN (q 20)) (OptL.keep (by rfl) OptL.nil) (GuardV.plain _)) rfl (c (oq hN 124 (mv hN (q 22)) (OptL.keep (by rfl) OptL.nil) (GuardV.plain _)) rfl (c (oq hN 124 (OpJ.neqI (L rfl) (q 125) (q 126)) (OptL.opt (OptL.opt OptL.nil)) (GuardV.plain _)) rfl (c (OpJ.pickOr rfl (L rfl) (q 124) (q 127)) rfl (c (OpJ.val (v' := .d (.bool false)) (by rw [hg148] <;> rfl) (mv hN (q 128))) rfl (c (gd 129 (lb hN 25 _ _ tyS25 (At.here _) (q 23))) rfl (c (gd 129 (lb hN 25 _ _ tyS25 (At.here _) (q 25))) rfl (cg (gd 129 (cf hB fnOk16 (exchangepointref21_Same_ac r130.1 r135.1 r149 hr149) (L rfl) (OpdL.cons (q 130) (OpdL.cons (q 131) OpdL.nil)))) rfl (c (gd 129 (OpJ.not (L rfl) (q 132))) rfl (c (OpJ.pickF (L rfl) (q 129) (q 133)) rfl (c (mv hN (q 134)) rfl (c (oq hN 135 (mv hN (q 24)) (OptL.keep (by rfl) OptL.nil) (GuardV.plain _)) rfl (c (oq hN 135 (mv hN (q 26)) (OptL.keep (by rfl) OptL.nil) (GuardV.plain _)) rfl (c (oq hN 135 (OpJ.neqI (L rfl) (q 136) (q 137)) (OptL.opt (OptL.opt OptL.nil)) (GuardV.plain _)) rfl (c (OpJ.pickOr rfl (L rfl) (q 135) (q 138)) rfl cn))))))))))))))))))))))))))))))) ?_
       exact hjj143 _ h _ _ (mp [] _ _ hB)
   ·replace h := ite_f hg104 h
    apply AWp.exit
    apply seqQ_e
    obtain rfl := Option.some.inj h
    exact ⟨(fun hc => by cases hc), rfl, (mp [] _ _ hB)⟩
  ·rcases x150 with _ | _
   ·obtain ⟨rfl, hmat⟩ := hR
    apply blkQ_r
    apply seqQ_r
    obtain rfl := Option.some.inj h
    exact ⟨.inl rfl, _, _, (Mat.trans hmat (mp [] [(10, (bo false))] [(500, some (.know (globF 0 [50, 52, 133]))), (501, some (.know (globF 1 [71, 134, 135])))] hB)), [(bo false)], (Res.tmp (by rfl) (by rfl) Res.nil), rfl, by rfl, by rfl, by rfl⟩
   ·obtain ⟨rfl, hmat⟩ := hR
    apply blkQ_hit
    apply seqQ_n
    refine AWp.ghost hmat ?_
    apply AWp.seq
    refine AWp.cut h (fun m163 : Bool => ([(10, (bo m163))] : EL)) (fun m163 : Bool => ([(500, some (.know (globF 0 [50, 52, 133]))), (501, some (.know (globF 1 [71, 134, 135])))] : OL)) (fun m163 h E' O' hmat => ?_) (fun j164 hjj164 h => ?_)
    ·apply seqQ_n
     refine AWp.ghost hmat ?_
     apply AWp.ret
     obtain rfl := Option.some.inj h
     exact ⟨.inl rfl, _, _, (kp [(10, _)] [(500, some _), (501, some _)] hB rfl rfl (by rfl)), [(bo m163)], (Res.tmp (by rfl) (by rfl) Res.nil), rfl, by rfl, by rfl, by rfl⟩
    ·obtain ⟨r165, hr165, h⟩ := bindS h
     obtain ⟨r166, hr166, h⟩ := bindS h
     rcases Bool.eq_false_or_eq_true (r165 == r166) with hg167 | hg167
     ·replace h := ite_t hg167 h
      obtain ⟨r168, hr168, h⟩ := bindS h
      obtain ⟨r169, hr169, h⟩ := bindS h
      rcases Bool.eq_false_or_eq_true (r168 == r169) with hg170 | hg170
      ·replace h := ite_t hg170 h
       obtain ⟨r171, hr171, h⟩ := bindS h
       rcases Bool.eq_false_or_eq_true r171 with hg172 | hg172
       ·replace h := ite_t hg172 h
        obtain ⟨r173, hr173, h⟩ := bindS h
        refine AWp.draws (by kernel_rfl) (oc (lb hN 25 (.d (e_api_Resources r5.1)) (.d (e_api_Resources r5.1)) tyS25 (At.here _) (ot 11 (pt 1011)))
         (oc (lb hN 25 (.d (e_api_Resources r7.1)) (.d (e_api_Resources r7.1)) tyS25 (At.here _) (ot 12 (pt 1012)))
         (oc (OpJ.callFn hB fnOk17 (resource_Covers_ac r5.1 r7.1 r165 hr165) [(500, 500), (501, 501)] (by kernel_rfl) (L rfl) (by kernel_rfl) (OpdL.cons (ot 141 (.d (e_api_Resources r5.1))) (OpdL.cons (ot 142 (.d (e_api_Resources r7.1))) OpdL.nil)))
         (oc (lb hN 25 (.d (e_api_Resources r5.1)) (.d (e_api_Resources r5.1)) tyS25 (At.here _) (ot 11 (pt 1011)))
         (oc (lb hN 25 (.d (e_api_Resources r7.1)) (.d (e_api_Resources r7.1)) tyS25 (At.here _) (ot 12 (pt 1012)))
         (oc (cf hB fnOk18 (exchangepointref21_Covers_ac r5.1 r7.1 r166 hr166) (L rfl) (OpdL.cons (ot 144 (.d (e_api_Resources r5.1))) (OpdL.cons (ot 145 (.d (e_api_Resources r7.1))) OpdL.nil)))
         (oc (OpJ.eqlB underlying4 (L rfl) (ot 143 (bo r165)) (ot 146 (bo r166)))
         (oc (OpJ.val (v' := .d (.bool true)) (by rw [hg167] <;> rfl) (mv hN (ot 147 (bo (r165 == r166)))))
         (oc (gd 148 (lb hN 25 (.d (e_api_Resources r7.1)) (.d (e_api_Resources r7.1)) tyS25 (At.here _) (ot 12 (pt 1012))))
         (oc (gd 148 (lb hN 25 (.d (e_api_Resources r5.1)) (.d (e_api_Resources r5.1)) tyS25 (At.here _) (ot 11 (pt 1011))))
         (oc (gd 148 (OpJ.callFn hB fnOk17 (resource_Covers_ac r7.1 r5.1 r168 hr168) [(500, 500), (501, 501)] (by kernel_rfl) (L rfl) (by kernel_rfl) (OpdL.cons (ot 149 (.d (e_api_Resources r7.1))) (OpdL.cons (ot 150 (.d (e_api_Resources r5.1))) OpdL.nil))))
         (oc (gd 148 (lb hN 25 (.d (e_api_Resources r7.1)) (.d (e_api_Resources r7.1)) tyS25 (At.here _) (ot 12 (pt 1012))))
         (oc (gd 148 (lb hN 25 (.d (e_api_Resources r5.1)) (.d (e_api_Resources r5.1)) tyS25 (At.here _) (ot 11 (pt 1011))))
         (oc (gd 148 (cf hB fnOk18 (exchangepointref21_Covers_ac r7.1 r5.1 r169 hr169) (L rfl) (OpdL.cons (ot 152 (.d (e_api_Resources r7.1))) (OpdL.cons (ot 153 (.d (e_api_Resources r5.1))) OpdL.nil))))
         (oc (gd 148 (OpJ.eqlB underlying4 (L rfl) (ot 151 (bo r168)) (ot 154 (bo r169))))
         (oc (OpJ.pickT (L rfl) (ot 148 (bo true)) (ot 155 (bo (r168 == r169))))
         (oc (OpJ.val (v' := .d (.bool true)) (by rw [hg170] <;> rfl) (mv hN (ot 156 (bo (r168 == r169)))))
         (oc (gd 157 (lb hN 25 (.d (e_api_Resources r5.1)) (.d (e_api_Resources r5.1)) tyS25 (At.here _) (ot 11 (pt 1011))))
         (oc (gd 157 (lb hN 25 (.d (e_api_Resources r5.1)) (.d (e_api_Resources r5.1)) tyS25 (At.here _) (ot 11 (pt 1011))))
         (oc (gd 157 (OpJ.callFn hB fnOk17 (resource_Covers_ac r5.1 r5.1 r171 hr171) [(500, 500), (501, 501)] (by kernel_rfl) (L rfl) (by kernel_rfl) (OpdL.cons (ot 158 (.d (e_api_Resources r5.1))) (OpdL.cons (ot 159 (.d (e_api_Resources r5.1))) OpdL.nil))))
         (oc (OpJ.pickT (L rfl) (ot 157 (bo true)) (ot 160 (bo r171)))
         (oc (OpJ.val (v' := .d (.bool true)) (by rw [hg172] <;> rfl) (mv hN (ot 161 (bo r171))))
         (oc (gd 162 (OpJ.callFn hB fnOk6 (exchangepointlaw21_awake_ac  r173 hr173) [(500, 500), (501, 501)] (by kernel_rfl) (L rfl) (by kernel_rfl) OpdL.nil))
         (oc (OpJ.pickT (L rfl) (ot 162 (bo true)) (ot 163 (bo r173)))
         (oc (OpJ.assign (L rfl) (ot 164 (bo r173)))
         (OpJs.nil)))))))))))))))))))))))))) (by kernel_rfl) (by rfl) (by rfl) ?_
        exact hjj164 _ h _ _ (mp [] _ _ hB)
       ·replace h := ite_f hg172 h
        refine AWp.draws (by kernel_rfl) (oc (lb hN 25 (.d (e_api_Resources r5.1)) (.d (e_api_Resources r5.1)) tyS25 (At.here _) (ot 11 (pt 1011)))
         (oc (lb hN 25 (.d (e_api_Resources r7.1)) (.d (e_api_Resources r7.1)) tyS25 (At.here _) (ot 12 (pt 1012)))
         (oc (OpJ.callFn hB fnOk17 (resource_Covers_ac r5.1 r7.1 r165 hr165) [(500, 500), (501, 501)] (by kernel_rfl) (L rfl) (by kernel_rfl) (OpdL.cons (ot 141 (.d (e_api_Resources r5.1))) (OpdL.cons (ot 142 (.d (e_api_Resources r7.1))) OpdL.nil)))
         (oc (lb hN 25 (.d (e_api_Resources r5.1)) (.d (e_api_Resources r5.1)) tyS25 (At.here _) (ot 11 (pt 1011)))
         (oc (lb hN 25 (.d (e_api_Resources r7.1)) (.d (e_api_Resources r7.1)) tyS25 (At.here _) (ot 12 (pt 1012)))
         (oc (cf hB fnOk18 (exchangepointref21_Covers_ac r5.1 r7.1 r166 hr166) (L rfl) (OpdL.cons (ot 144 (.d (e_api_Resources r5.1))) (OpdL.cons (ot 145 (.d (e_api_Resources r7.1))) OpdL.nil)))
         (oc (OpJ.eqlB underlying4 (L rfl) (ot 143 (bo r165)) (ot 146 (bo r166)))
         (oc (OpJ.val (v' := .d (.bool true)) (by rw [hg167] <;> rfl) (mv hN (ot 147 (bo (r165 == r166)))))
         (oc (gd 148 (lb hN 25 (.d (e_api_Resources r7.1)) (.d (e_api_Resources r7.1)) tyS25 (At.here _) (ot 12 (pt 1012))))
         (oc (gd 148 (lb hN 25 (.d (e_api_Resources r5.1)) (.d (e_api_Resources r5.1)) tyS25 (At.here _) (ot 11 (pt 1011))))
         (oc (gd 148 (OpJ.callFn hB fnOk17 (resource_Covers_ac r7.1 r5.1 r168 hr168) [(500, 500), (501, 501)] (by kernel_rfl) (L rfl) (by kernel_rfl) (OpdL.cons (ot 149 (.d (e_api_Resources r7.1))) (OpdL.cons (ot 150 (.d (e_api_Resources r5.1))) OpdL.nil))))
         (oc (gd 148 (lb hN 25 (.d (e_api_Resources r7.1)) (.d (e_api_Resources r7.1)) tyS25 (At.here _) (ot 12 (pt 1012))))
         (oc (gd 148 (lb hN 25 (.d (e_api_Resources r5.1)) (.d (e_api_Resources r5.1)) tyS25 (At.here _) (ot 11 (pt 1011))))
         (oc (gd 148 (cf hB fnOk18 (exchangepointref21_Covers_ac r7.1 r5.1 r169 hr169) (L rfl) (OpdL.cons (ot 152 (.d (e_api_Resources r7.1))) (OpdL.cons (ot 153 (.d (e_api_Resources r5.1))) OpdL.nil))))
         (oc (gd 148 (OpJ.eqlB underlying4 (L rfl) (ot 151 (bo r168)) (ot 154 (bo r169))))
         (oc (OpJ.pickT (L rfl) (ot 148 (bo true)) (ot 155 (bo (r168 == r169))))
         (oc (OpJ.val (v' := .d (.bool true)) (by rw [hg170] <;> rfl) (mv hN (ot 156 (bo (r168 == r169)))))
         (oc (gd 157 (lb hN 25 (.d (e_api_Resources r5.1)) (.d (e_api_Resources r5.1)) tyS25 (At.here _) (ot 11 (pt 1011))))
         (oc (gd 157 (lb hN 25 (.d (e_api_Resources r5.1)) (.d (e_api_Resources r5.1)) tyS25 (At.here _) (ot 11 (pt 1011))))
         (oc (gd 157 (OpJ.callFn hB fnOk17 (resource_Covers_ac r5.1 r5.1 r171 hr171) [(500, 500), (501, 501)] (by kernel_rfl) (L rfl) (by kernel_rfl) (OpdL.cons (ot 158 (.d (e_api_Resources r5.1))) (OpdL.cons (ot 159 (.d (e_api_Resources r5.1))) OpdL.nil))))
         (oc (OpJ.pickT (L rfl) (ot 157 (bo true)) (ot 160 (bo r171)))
         (oc (OpJ.val (v' := .d (.bool false)) (by rw [hg172] <;> rfl) (mv hN (ot 161 (bo r171))))
         (oc (sU 162 (L rfl))
         (oc (OpJ.pickF (L rfl) (ot 162 (bo false)) (Opd.bool false))
         (oc (OpJ.assign (L rfl) (ot 164 (bo false)))
         (OpJs.nil)))))))))))))))))))))))))) (by kernel_rfl) (by rfl) (by rfl) ?_
        exact hjj164 _ h _ _ (mp [] _ _ hB)
      ·replace h := ite_f hg170 h
       refine AWp.draws (by kernel_rfl) (oc (lb hN 25 (.d (e_api_Resources r5.1)) (.d (e_api_Resources r5.1)) tyS25 (At.here _) (ot 11 (pt 1011)))
        (oc (lb hN 25 (.d (e_api_Resources r7.1)) (.d (e_api_Resources r7.1)) tyS25 (At.here _) (ot 12 (pt 1012)))
        (oc (OpJ.callFn hB fnOk17 (resource_Covers_ac r5.1 r7.1 r165 hr165) [(500, 500), (501, 501)] (by kernel_rfl) (L rfl) (by kernel_rfl) (OpdL.cons (ot 141 (.d (e_api_Resources r5.1))) (OpdL.cons (ot 142 (.d (e_api_Resources r7.1))) OpdL.nil)))
        (oc (lb hN 25 (.d (e_api_Resources r5.1)) (.d (e_api_Resources r5.1)) tyS25 (At.here _) (ot 11 (pt 1011)))
        (oc (lb hN 25 (.d (e_api_Resources r7.1)) (.d (e_api_Resources r7.1)) tyS25 (At.here _) (ot 12 (pt 1012)))
        (oc (cf hB fnOk18 (exchangepointref21_Covers_ac r5.1 r7.1 r166 hr166) (L rfl) (OpdL.cons (ot 144 (.d (e_api_Resources r5.1))) (OpdL.cons (ot 145 (.d (e_api_Resources r7.1))) OpdL.nil)))
        (oc (OpJ.eqlB underlying4 (L rfl) (ot 143 (bo r165)) (ot 146 (bo r166)))
        (oc (OpJ.val (v' := .d (.bool true)) (by rw [hg167] <;> rfl) (mv hN (ot 147 (bo (r165 == r166)))))
        (oc (gd 148 (lb hN 25 (.d (e_api_Resources r7.1)) (.d (e_api_Resources r7.1)) tyS25 (At.here _) (ot 12 (pt 1012))))
        (oc (gd 148 (lb hN 25 (.d (e_api_Resources r5.1)) (.d (e_api_Resources r5.1)) tyS25 (At.here _) (ot 11 (pt 1011))))
        (oc (gd 148 (OpJ.callFn hB fnOk17 (resource_Covers_ac r7.1 r5.1 r168 hr168) [(500, 500), (501, 501)] (by kernel_rfl) (L rfl) (by kernel_rfl) (OpdL.cons (ot 149 (.d (e_api_Resources r7.1))) (OpdL.cons (ot 150 (.d (e_api_Resources r5.1))) OpdL.nil))))
        (oc (gd 148 (lb hN 25 (.d (e_api_Resources r7.1)) (.d (e_api_Resources r7.1)) tyS25 (At.here _) (ot 12 (pt 1012))))
        (oc (gd 148 (lb hN 25 (.d (e_api_Resources r5.1)) (.d (e_api_Resources r5.1)) tyS25 (At.here _) (ot 11 (pt 1011))))
        (oc (gd 148 (cf hB fnOk18 (exchangepointref21_Covers_ac r7.1 r5.1 r169 hr169) (L rfl) (OpdL.cons (ot 152 (.d (e_api_Resources r7.1))) (OpdL.cons (ot 153 (.d (e_api_Resources r5.1))) OpdL.nil))))
        (oc (gd 148 (OpJ.eqlB underlying4 (L rfl) (ot 151 (bo r168)) (ot 154 (bo r169))))
        (oc (OpJ.pickT (L rfl) (ot 148 (bo true)) (ot 155 (bo (r168 == r169))))
        (oc (OpJ.val (v' := .d (.bool false)) (by rw [hg170] <;> rfl) (mv hN (ot 156 (bo (r168 == r169)))))
        (oc (sU 157 (L rfl))
        (oc (sU 157 (L rfl))
        (oc (sU 157 (L rfl))
        (oc (OpJ.pickF (L rfl) (ot 157 (bo false)) (Opd.bool false))
        (oc (mv hN (ot 161 (bo false)))
        (oc (sU 162 (L rfl))
        (oc (OpJ.pickF (L rfl) (ot 162 (bo false)) (Opd.bool false))
        (oc (OpJ.assign (L rfl) (ot 164 (bo false)))
        (OpJs.nil)))))))))))))))))))))))))) (by kernel_rfl) (by rfl) (by rfl) ?_
       exact hjj164 _ h _ _ (mp [] _ _ hB)
     ·replace h := ite_f hg167 h
      refine AWp.draws (by kernel_rfl) (oc (lb hN 25 (.d (e_api_Resources r5.1)) (.d (e_api_Resources r5.1)) tyS25 (At.here _) (ot 11 (pt 1011)))
       (oc (lb hN 25 (.d (e_api_Resources r7.1)) (.d (e_api_Resources r7.1)) tyS25 (At.here _) (ot 12 (pt 1012)))
       (oc (OpJ.callFn hB fnOk17 (resource_Covers_ac r5.1 r7.1 r165 hr165) [(500, 500), (501, 501)] (by kernel_rfl) (L rfl) (by kernel_rfl) (OpdL.cons (ot 141 (.d (e_api_Resources r5.1))) (OpdL.cons (ot 142 (.d (e_api_Resources r7.1))) OpdL.nil)))
       (oc (lb hN 25 (.d (e_api_Resources r5.1)) (.d (e_api_Resources r5.1)) tyS25 (At.here _) (ot 11 (pt 1011)))
       (oc (lb hN 25 (.d (e_api_Resources r7.1)) (.d (e_api_Resources r7.1)) tyS25 (At.here _) (ot 12 (pt 1012)))
       (oc (cf hB fnOk18 (exchangepointref21_Covers_ac r5.1 r7.1 r166 hr166) (L rfl) (OpdL.cons (ot 144 (.d (e_api_Resources r5.1))) (OpdL.cons (ot 145 (.d (e_api_Resources r7.1))) OpdL.nil)))
       (oc (OpJ.eqlB underlying4 (L rfl) (ot 143 (bo r165)) (ot 146 (bo r166)))
       (oc (OpJ.val (v' := .d (.bool false)) (by rw [hg167] <;> rfl) (mv hN (ot 147 (bo (r165 == r166)))))
       (oc (sU 148 (L rfl))
       (oc (sU 148 (L rfl))
       (oc (sU 148 (L rfl))
       (oc (sU 148 (L rfl))
       (oc (sU 148 (L rfl))
       (oc (sU 148 (L rfl))
       (oc (sU 148 (L rfl))
       (oc (OpJ.pickF (L rfl) (ot 148 (bo false)) (Opd.bool false))
       (oc (mv hN (ot 156 (bo false)))
       (oc (sU 157 (L rfl))
       (oc (sU 157 (L rfl))
       (oc (sU 157 (L rfl))
       (oc (OpJ.pickF (L rfl) (ot 157 (bo false)) (Opd.bool false))
       (oc (mv hN (ot 161 (bo false)))
       (oc (sU 162 (L rfl))
       (oc (OpJ.pickF (L rfl) (ot 162 (bo false)) (Opd.bool false))
       (oc (OpJ.assign (L rfl) (ot 164 (bo false)))
       (OpJs.nil)))))))))))))))))))))))))) (by kernel_rfl) (by rfl) (by rfl) ?_
      exact hjj164 _ h _ _ (mp [] _ _ hB)
end Go.Proofs.YtgcilleccigmdaaGreatDoor

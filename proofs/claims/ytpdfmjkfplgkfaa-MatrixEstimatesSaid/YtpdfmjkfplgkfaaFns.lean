/- Printed by gen.py: the Go functions as plain functions, and that the code does what they say. -/
import Derived.Test.YtpdfmjkfplgkfaaChecked
import Derived.Test.YtpdfmjkfplgkfaaVcYB
import Derived.Test.YtpdfmjkfplgkfaaVcZ
import Derived.KernelRfl
import Derived.Test.YtpdfmjkfplgkfaaVcMD
import Derived.Test.YtpdfmjkfplgkfaaVcSG
import Derived.Test.YtpdfmjkfplgkfaaFnsA
import Derived.Test.YtpdfmjkfplgkfaaExt
namespace Go.Proofs.Ytpdfmjkfplgkfaa
open Go Go.Vc
noncomputable def exchangepointref38_less (a0 : api_Cell) (a1 : api_Cell) : Option (Bool) :=
  jn (fun m2 : Bool =>
  some m2) (fun j3 =>
  (if (decide (a0.fFrom < a1.fFrom)) = true then
  j3 true
  else
  j3 ((a0.fFrom == a1.fFrom) && (decide (a0.fTo < a1.fTo)))))
set_option maxHeartbeats 4000000 in
set_option maxRecDepth 100000 in
theorem exchangepointref38_less_ac (a0 : api_Cell) (a1 : api_Cell) (r : Bool) (h : exchangepointref38_less a0 a1 = some r) : AC Try.prog 40 [(.d (e_api_Cell a0)), (.d (e_api_Cell a1))] [] (.d (.bool r)) [] := by
  refine AC.of_code2 Try.func40 rfl rfl (Nat.le_of_ble_eq_true (by rfl)) fun B hB hN => ?_
  have L {d : Nat} (h : Nat.blt d Try.f40.ntmps = true) : d < B.N := ltN hN h
  delta exchangepointref38_less at h
  refine sr (cg (OpJ.box hB (nm := 1002) (by decide) (by simp) rfl (L rfl) (q 0)) rfl (cg (OpJ.box hB (nm := 1003) (by decide) (by simp) rfl (L rfl) (q 1)) rfl (c (OpJ.assign (L rfl) (Opd.bool false)) rfl cn))) ?_
  refine gh [(2, _), (3, _)] [(1002, some _), (1003, some _)] hB rfl rfl (by rfl) ?_
  refine AWp.seq ?_
  refine AWp.cut h (fun m2 : Bool => ([(4, (bo m2))] : EL)) (fun m2 : Bool => ([] : OL)) (fun m2 h E' O' hmat => ?_) (fun j3 hjj3 h => ?_)
  · refine seqQ_n ?_
    refine AWp.ghost hmat ?_
    refine AWp.ret ?_
    obtain rfl := Option.some.inj h
    exact ⟨.inl rfl, _, _, (kp [(4, _)] [] hB rfl rfl (by rfl)), [(bo m2)], (Res.tmp (by rfl) (by rfl) Res.nil), rfl, by rfl, by rfl, by rfl⟩
  · rcases Bool.eq_false_or_eq_true (decide (a0.fFrom < a1.fFrom)) with hg4 | hg4
    · replace h := ite_t hg4 h
      refine rg (c (ov (.ptr 1002 0 [0]) (fp hN Try.underlying23 0 tyS3 _ (q 2))) rfl (c (lb hN 23 _ _ tyS3 (ad _) (q 5)) rfl (c (ov (.ptr 1003 0 [0]) (fp hN Try.underlying23 0 tyS3 _ (q 3))) rfl (c (lb hN 23 _ _ tyS3 (ad _) (q 7)) rfl (c (OpJ.lss (L rfl) (q 6) (q 8)) rfl (c (OpJ.val (v' := .d (.bool true)) (by rw [hg4]) (mv hN (q 9))) rfl (cg (OpJ.skipU (g := 10) (L rfl) (by rfl)) rfl (cg (OpJ.skipU (g := 10) (L rfl) (by rfl)) rfl (cg (OpJ.skipU (g := 10) (L rfl) (by rfl)) rfl (cg (OpJ.skipU (g := 10) (L rfl) (by rfl)) rfl (cg (OpJ.skipU (g := 10) (L rfl) (by rfl)) rfl (cg (OpJ.skipU (g := 10) (L rfl) (by rfl)) rfl (cg (OpJ.skipV (g := 16) (L rfl) (by rfl)) rfl (cg (OpJ.skipV (g := 16) (L rfl) (by rfl)) rfl (cg (OpJ.skipV (g := 16) (L rfl) (by rfl)) rfl (cg (OpJ.skipV (g := 16) (L rfl) (by rfl)) rfl (cg (OpJ.skipV (g := 16) (L rfl) (by rfl)) rfl (cg (OpJ.skipU (g := 10) (L rfl) (by rfl)) rfl (c (OpJ.pickT (L rfl) (q 10) (Opd.bool true)) rfl (c (OpJ.assign (L rfl) (q 23)) rfl cn)))))))))))))))))))) ?_
      exact hjj3 _ h _ _ (Mat.trans (mp [] [(4, (bo true))] [] hB) (mp [] _ _ hB))
    · replace h := ite_f hg4 h
      refine rg (c (ov (.ptr 1002 0 [0]) (fp hN Try.underlying23 0 tyS3 _ (q 2))) rfl (c (lb hN 23 _ _ tyS3 (ad _) (q 5)) rfl (c (ov (.ptr 1003 0 [0]) (fp hN Try.underlying23 0 tyS3 _ (q 3))) rfl (c (lb hN 23 _ _ tyS3 (ad _) (q 7)) rfl (c (OpJ.lss (L rfl) (q 6) (q 8)) rfl (c (OpJ.val (v' := .d (.bool false)) (by rw [hg4]) (mv hN (q 9))) rfl (c (OpJ.guarded (g := 10) (by rfl) (ov (.ptr 1002 0 [0]) (fp hN Try.underlying23 0 tyS3 _ (q 2)))) rfl (c (OpJ.guarded (g := 10) (by rfl) (lb hN 23 _ _ tyS3 (ad _) (q 11))) rfl (c (OpJ.guarded (g := 10) (by rfl) (ov (.ptr 1003 0 [0]) (fp hN Try.underlying23 0 tyS3 _ (q 3)))) rfl (c (OpJ.guarded (g := 10) (by rfl) (lb hN 23 _ _ tyS3 (ad _) (q 13))) rfl (c (OpJ.guarded (g := 10) (by rfl) (OpJ.eqlI (L rfl) (q 12) (q 14))) rfl (c (OpJ.guarded (g := 10) (by rfl) (mv hN (q 15))) rfl (c (oq hN 16 (ov (.ptr 1002 1 [1]) (fp hN Try.underlying23 1 tyS3 _ (q 2))) (OptL.keep (by rfl) OptL.nil) (GuardV.plain _)) rfl (c (oq hN 16 (lb hN 23 _ _ tyS3 (ad _) (q 17)) (OptL.opt OptL.nil) (GuardV.plain _)) rfl (c (oq hN 16 (ov (.ptr 1003 1 [1]) (fp hN Try.underlying23 1 tyS3 _ (q 3))) (OptL.keep (by rfl) OptL.nil) (GuardV.plain _)) rfl (c (oq hN 16 (lb hN 23 _ _ tyS3 (ad _) (q 19)) (OptL.opt OptL.nil) (GuardV.plain _)) rfl (c (oq hN 16 (OpJ.lss (L rfl) (q 18) (q 20)) (OptL.opt (OptL.opt OptL.nil)) (GuardV.plain _)) rfl (c (OpJ.guarded (g := 10) (by rfl) (OpJ.pickAnd rfl (L rfl) (q 16) (q 21))) rfl (c (OpJ.pickF (L rfl) (q 10) (q 22)) rfl (c (OpJ.assign (L rfl) (q 23)) rfl cn)))))))))))))))))))) ?_
      exact hjj3 _ h _ _ (Mat.trans (mp [] [(4, (bo ((a0.fFrom == a1.fFrom) && (decide (a0.fTo < a1.fTo)))))] [] hB) (mp [] _ _ hB))

noncomputable def exchangepointref38_put_L0 (a0 : (List api_Cell)) (a1 : api_Cell) (s1 : Int) : Option (((Int)) ⊕ (Int)) :=
  jn (fun m24 : Bool =>
  (if m24 = true then
  some (.inr (w64 (s1 + (1 : Int))))
  else
  some (.inl s1))) (fun j25 =>
  (if (decide (s1 < (a0.length : Int))) = true then
  (idx a0 s1).bind fun x28 =>
  (exchangepointref38_less x28 a1).bind fun r29 =>
  j25 r29
  else
  j25 false))
noncomputable def exchangepointref38_put (a0 : (List api_Cell)) (a1 : api_Cell) : Option ((List api_Cell)) :=
  (loop (exchangepointref38_put_L0 a0 a1) (0 : Int)).bind fun p20 =>
  chk ((decide (0 ≤ p20) && decide (0 ≤ p20.toNat) && decide (p20.toNat ≤ a0.length))) <|
  chk (decide (((a0.take p20.toNat).drop 0).length ≤ LIM)) <|
  jn (fun m37 : Bool =>
  (if m37 = true then
  (idx a0 p20).bind fun x40 =>
  (idx a0 p20).bind fun x41 =>
  chk (decide ((((a0.take p20.toNat).drop 0) ++ ([(api_Cell.mk a1.fFrom a1.fTo (w64 (a1.fSamples + x40.fSamples)) (w64 (a1.fBytes + x41.fBytes)))] : List api_Cell)).length ≤ LIM)) <|
  chk ((decide (0 ≤ (w64 (p20 + (1 : Int)))) && decide ((w64 (p20 + (1 : Int))).toNat ≤ a0.length) && decide (a0.length ≤ a0.length))) <|
  chk (decide (((((a0.take p20.toNat).drop 0) ++ ([(api_Cell.mk a1.fFrom a1.fTo (w64 (a1.fSamples + x40.fSamples)) (w64 (a1.fBytes + x41.fBytes)))] : List api_Cell)) ++ ((a0.take a0.length).drop ((w64 (p20 + (1 : Int))).toNat))).length ≤ LIM)) <|
  some ((((a0.take p20.toNat).drop 0) ++ ([(api_Cell.mk a1.fFrom a1.fTo (w64 (a1.fSamples + x40.fSamples)) (w64 (a1.fBytes + x41.fBytes)))] : List api_Cell)) ++ ((a0.take a0.length).drop ((w64 (p20 + (1 : Int))).toNat)))
  else
  chk (decide ((((a0.take p20.toNat).drop 0) ++ ([a1] : List api_Cell)).length ≤ LIM)) <|
  chk ((decide (0 ≤ p20) && decide (p20.toNat ≤ a0.length) && decide (a0.length ≤ a0.length))) <|
  chk (decide (((((a0.take p20.toNat).drop 0) ++ ([a1] : List api_Cell)) ++ ((a0.take a0.length).drop p20.toNat)).length ≤ LIM)) <|
  some ((((a0.take p20.toNat).drop 0) ++ ([a1] : List api_Cell)) ++ ((a0.take a0.length).drop p20.toNat)))) (fun j38 =>
  (if (decide (p20 < (a0.length : Int))) = true then
  (idx a0 p20).bind fun x49 =>
  (exchangepointref38_less a1 x49).bind fun r50 =>
  j38 (!r50)
  else
  j38 false))
set_option maxHeartbeats 4000000 in
set_option maxRecDepth 100000 in
theorem exchangepointref38_put_ac (a0 : (List api_Cell)) (a1 : api_Cell) (r : (List api_Cell)) (h : exchangepointref38_put a0 a1 = some r) : AC Try.prog 34 [(.d (.list 4 (a0.map e_api_Cell))), (.d (e_api_Cell a1))] [] (.d (.list 4 (r.map e_api_Cell))) [] := by
  refine AC.of_code2 Try.func34 rfl rfl (Nat.le_of_ble_eq_true (by rfl)) fun B hB hN => ?_
  have L {d : Nat} (h : Nat.blt d Try.f34.ntmps = true) : d < B.N := ltN hN h
  delta exchangepointref38_put at h
  refine sr (cg (OpJ.box hB (nm := 1003) (by decide) (by simp) rfl (L rfl) (q 1)) rfl (c (OpJ.assign (L rfl) Opd.nils) rfl cn)) ?_
  refine gh [(0, _), (3, _)] [(1003, some _)] hB rfl rfl (by rfl) ?_
  refine sr (c (OpJ.assign (L rfl) (Opd.int .i64 (0))) rfl cn) ?_
  refine gh [(0, _), (3, _), (5, _)] [(1003, some _)] hB rfl rfl (by rfl) ?_
  refine AWp.seq ?_
  refine AWp.block ?_
  obtain ⟨p20, hx31, h⟩ := bindS h
  refine lg (exchangepointref38_put_L0 a0 a1) (fun s1 : Int => ([(0, (qe_api_Cell_4 a0)), (3, (.ptr 1003 0 [])), (5, (i6 s1))] : EL)) (fun s1 : Int => ([(1003, some (.box 23 (.d (e_api_Cell a1))))] : OL)) (fun (p20 : (Int)) e E' O' => e = .exit 0 ∧ Mat B E' O' ([(0, (qe_api_Cell_4 a0)), (3, (.ptr 1003 0 [])), (5, (i6 p20))] : EL) ([(1003, some (.box 23 (.d (e_api_Cell a1))))] : OL)) hx31 (mp [] _ _ hB) (fun s1 y h => ?_) (fun e E' O' hR => ?_)
  · unfold exchangepointref38_put_L0 at h
    refine AWp.seq ?_
    refine AWp.seq ?_
    refine AWp.cut h (fun m24 : Bool => ([(0, (qe_api_Cell_4 a0)), (3, (.ptr 1003 0 [])), (5, (i6 s1)), (18, (bo m24))] : EL)) (fun m24 : Bool => ([(1003, some (.box 23 (.d (e_api_Cell a1))))] : OL)) (fun m24 h E' O' hmat => ?_) (fun j25 hjj25 h => ?_)
    · refine seqQ_n ?_
      refine AWp.ghost hmat ?_
      refine AWp.cond rfl (fun hg26 => ?_) (fun hg26 => ?_)
      · replace h := ite_t hg26 h
        refine AWp.skip ?_
        refine seqQ_n ?_
        refine AWp.block ?_
        refine rg (c (mv hN (q 5)) rfl (c (add6 (L rfl) (q 19) (Opd.int .i64 (1))) rfl (c (OpJ.assign (L rfl) (q 20)) rfl cn))) ?_
        refine blkQ_n ?_
        obtain rfl := Option.some.inj h
        exact ⟨rfl, (Mat.trans (mp [] [(0, (qe_api_Cell_4 a0)), (3, (.ptr 1003 0 [])), (5, (i6 (w64 (s1 + (1 : Int)))))] [(1003, some (.box 23 (.d (e_api_Cell a1))))] hB) (mp [] _ _ hB))⟩
      · replace h := ite_f hg26 h
        refine AWp.exit ?_
        refine seqQ_e ?_
        obtain rfl := Option.some.inj h
        exact ⟨(fun hc => by cases hc), rfl, (mp [] _ _ hB)⟩
    · rcases Bool.eq_false_or_eq_true (decide (s1 < (a0.length : Int))) with hg27 | hg27
      · replace h := ite_t hg27 h
        obtain ⟨x28, hx28, h⟩ := bindS h
        obtain ⟨r29, hr29, h⟩ := bindS h
        refine dr (c (mv hN (q 5)) rfl (c (mv hN (q 0)) rfl (c (OpJ.val (v' := (i6 (a0.length : Int))) (by simp) (OpJ.lenD Try.underlying27 (L rfl) (q 8))) rfl (c (OpJ.lss (L rfl) (q 7) (q 9)) rfl (c (OpJ.val (v' := .d (.bool true)) (by rw [hg27]) (mv hN (q 10))) rfl (c (OpJ.guarded (g := 11) (by rfl) (mv hN (q 0))) rfl (c (OpJ.guarded (g := 11) (by rfl) (mv hN (q 5))) rfl (c (OpJ.guarded (g := 11) (by rfl) (OpJ.indexD Try.underlying27 tyS23 (idx_some hx28).1 (get_map e_api_Cell (idx_some hx28).2) (L rfl) (q 12) (q 13))) rfl (c (OpJ.guarded (g := 11) (by rfl) (OpJ.loadD tyS23 (by rfl) (by rfl) (L rfl) (q 14))) rfl (c (OpJ.guarded (g := 11) (by rfl) (lb hN 23 _ _ tyS23 (At.here _) (q 3))) rfl (cg (OpJ.guarded (g := 11) (by rfl) (OpJ.callFn hB fnOk40 (exchangepointref38_less_ac x28 a1 r29 hr29) [] (by kernel_rfl) (L rfl) (by kernel_rfl) (OpdL.cons (q 15) (OpdL.cons (q 16) OpdL.nil)))) rfl (c (OpJ.pickT (L rfl) (q 11) (q 17)) rfl cn)))))))))))) (by kernel_rfl) (by kernel_rfl) ?_
        exact hjj25 _ h _ _ (Mat.trans (mp [] [(0, (qe_api_Cell_4 a0)), (3, (.ptr 1003 0 [])), (5, (i6 s1)), (18, (bo r29))] [(1003, some (.box 23 (.d (e_api_Cell a1))))] hB) (mp [] _ _ hB))
      · replace h := ite_f hg27 h
        refine dr (c (mv hN (q 5)) rfl (c (mv hN (q 0)) rfl (c (OpJ.val (v' := (i6 (a0.length : Int))) (by simp) (OpJ.lenD Try.underlying27 (L rfl) (q 8))) rfl (c (OpJ.lss (L rfl) (q 7) (q 9)) rfl (c (OpJ.val (v' := .d (.bool false)) (by rw [hg27]) (mv hN (q 10))) rfl (cg (OpJ.skipU (g := 11) (L rfl) (by rfl)) rfl (cg (OpJ.skipU (g := 11) (L rfl) (by rfl)) rfl (cg (OpJ.skipU (g := 11) (L rfl) (by rfl)) rfl (cg (OpJ.skipU (g := 11) (L rfl) (by rfl)) rfl (cg (OpJ.skipU (g := 11) (L rfl) (by rfl)) rfl (cg (OpJ.skipU (g := 11) (L rfl) (by rfl)) rfl (c (OpJ.pickF (L rfl) (q 11) (Opd.bool false)) rfl cn)))))))))))) (by kernel_rfl) (by kernel_rfl) ?_
        exact hjj25 _ h _ _ (Mat.trans (mp [] [(0, (qe_api_Cell_4 a0)), (3, (.ptr 1003 0 [])), (5, (i6 s1)), (18, (bo false))] [(1003, some (.box 23 (.d (e_api_Cell a1))))] hB) (mp [] _ _ hB))
  · obtain ⟨rfl, hmat⟩ := hR
    refine blkQ_hit ?_
    refine seqQ_n ?_
    refine AWp.ghost hmat ?_
    obtain ⟨hc32, h⟩ := chk_some h
    obtain ⟨hc33, h⟩ := chk_some h
    refine sr (c (mv hN (q 0)) rfl (c (mv hN (q 5)) rfl (c (OpJ.cutD Try.underlying27 tyS23 (es' := ((a0.take p20.toNat).drop 0).map e_api_Cell) (l := 0) (h := p20.toNat) (.inl ⟨rfl, rfl, rfl⟩) (.inr ⟨_, _, _, rfl, (ot 22 (i6 p20)), (of_decide_eq_true (and_l2 (and_l2 hc32))), rfl⟩) (of_decide_eq_true (and_r2 (and_l2 hc32))) (by first | (simp; done) | simpa using (of_decide_eq_true (and_r2 hc32))) (by first | rw [List.map_drop, List.map_take] | simp [List.map_take, List.map_drop]) (L rfl) (q 21)) rfl (cg (OpJ.appendN hB Try.underlying27 tyE23 (nm := 1024) (by decide) (ys := ((a0.take p20.toNat).drop 0).map e_api_Cell) (len := ((a0.take p20.toNat).drop 0).length) (by simp) (map_sz (f := e_api_Cell) (fun _ => rfl)) (by rw [List.length_map]; exact lim_mulN hc33 (by decide)) (by rw [List.length_map]; exact lim_leN hc33) (L rfl) Opd.nils (q 23)) rfl (c (OpJ.assign (L rfl) (q 24)) rfl cn))))) ?_
    refine gh [(0, _), (3, _), (5, _), (6, _)] [(1003, some _), (1024, some _)] hB rfl rfl (by rfl) ?_
    refine AWp.seq ?_
    refine AWp.seq ?_
    refine AWp.cut h (fun m37 : Bool => ([(0, (qe_api_Cell_4 a0)), (3, (.ptr 1003 0 [])), (5, (i6 p20)), (6, (.sref 1024 4 0 (((a0.take p20.toNat).drop 0).length))), (37, (bo m37))] : EL)) (fun m37 : Bool => ([(1003, some (.box 23 (.d (e_api_Cell a1)))), (1024, some (we_api_Cell_23_4 ((a0.take p20.toNat).drop 0)))] : OL)) (fun m37 h E' O' hmat => ?_) (fun j38 hjj38 h => ?_)
    · refine seqQ_n ?_
      refine AWp.ghost hmat ?_
      refine AWp.cond rfl (fun hg39 => ?_) (fun hg39 => ?_)
      · replace h := ite_t hg39 h
        obtain ⟨x40, hx40, h⟩ := bindS h
        refine sd (c (ov (.ptr 1003 2 [2]) (fp hN Try.underlying23 2 tyS3 _ (q 3))) rfl (c (lb hN 23 _ _ tyS3 (ad _) (q 38)) rfl (c (mv hN (q 0)) rfl (c (mv hN (q 5)) rfl (c (OpJ.indexD Try.underlying27 tyS23 (idx_some hx40).1 (get_map e_api_Cell (idx_some hx40).2) (L rfl) (q 40) (q 41)) rfl (c (OpJ.fieldD Try.underlying23 (by rfl) (o := 2) (by rfl) tyS3 (by decide) (by rfl) (by rfl) (L rfl) (q 42)) rfl (c (OpJ.loadD tyS3 (by rfl) (by rfl) (L rfl) (q 43)) rfl (c (add6 (L rfl) (q 39) (q 44)) rfl (c (ov (.ptr 1003 2 [2]) (fp hN Try.underlying23 2 tyS3 _ (q 3))) rfl (cg (OpJ.storeB tyS3 (SetAt.dst1 (by rfl) (by rfl) (SetAt.here _ _) (by rfl) (by rfl) (by first | rfl | omega)) (by rfl) (by rfl) (by simp) rfl (q 46) (q 45)) rfl cn)))))))))) (by kernel_rfl) (by kernel_rfl) ?_
        refine gh [(0, _), (3, _), (5, _), (6, _)] [(1003, some _), (1024, some _)] hB rfl rfl (by rfl) ?_
        obtain ⟨x41, hx41, h⟩ := bindS h
        refine sd (c (ov (.ptr 1003 3 [3]) (fp hN Try.underlying23 3 tyS3 _ (q 3))) rfl (c (lb hN 23 _ _ tyS3 (ad _) (q 47)) rfl (c (mv hN (q 0)) rfl (c (mv hN (q 5)) rfl (c (OpJ.indexD Try.underlying27 tyS23 (idx_some hx41).1 (get_map e_api_Cell (idx_some hx41).2) (L rfl) (q 49) (q 50)) rfl (c (OpJ.fieldD Try.underlying23 (by rfl) (o := 3) (by rfl) tyS3 (by decide) (by rfl) (by rfl) (L rfl) (q 51)) rfl (c (OpJ.loadD tyS3 (by rfl) (by rfl) (L rfl) (q 52)) rfl (c (add6 (L rfl) (q 48) (q 53)) rfl (c (ov (.ptr 1003 3 [3]) (fp hN Try.underlying23 3 tyS3 _ (q 3))) rfl (cg (OpJ.storeB tyS3 (SetAt.dst1 (by rfl) (by rfl) (SetAt.here _ _) (by rfl) (by rfl) (by first | rfl | omega)) (by rfl) (by rfl) (by simp) rfl (q 55) (q 54)) rfl cn)))))))))) (by kernel_rfl) (by kernel_rfl) ?_
        refine gh [(0, _), (3, _), (5, _), (6, _)] [(1003, some _), (1024, some _)] hB rfl rfl (by rfl) ?_
        refine sr (c (mv hN (q 5)) rfl (c (add6 (L rfl) (q 56) (Opd.int .i64 (1))) rfl (c (OpJ.assign (L rfl) (q 57)) rfl cn))) ?_
        refine gh [(0, _), (3, _), (5, _), (6, _)] [(1003, some _), (1024, some _)] hB rfl rfl (by rfl) ?_
        obtain ⟨hc42, h⟩ := chk_some h
        obtain ⟨hc43, h⟩ := chk_some h
        obtain ⟨hc44, h⟩ := chk_some h
        refine sd (c (mv hN (q 6)) rfl (c (lb hN 23 _ _ tyS23 (At.here _) (q 3)) rfl (c (OpJ.buildSlice Try.underlying27 tyS23 tyZD23 (by rfl) (by decide) (by decide) (Opds.cons (q 59) Opds.nil) (by kernel_rfl) (es := ([(.st [(.int .i64 a1.fFrom), (.int .i64 a1.fTo), (.int .i64 (w64 (a1.fSamples + x40.fSamples))), (.int .i64 (w64 (a1.fBytes + x41.fBytes)))])] : List D)) (by rfl) (by rfl) (by kernel_rfl) (by simp) (L rfl)) rfl (cg (OpJ.append hB Try.underlying27 tyE23 (nm := 1061) (by decide) (es := ((a0.take p20.toNat).drop 0).map e_api_Cell) (ys := ([(api_Cell.mk a1.fFrom a1.fTo (w64 (a1.fSamples + x40.fSamples)) (w64 (a1.fBytes + x41.fBytes)))] : List api_Cell).map e_api_Cell) (es' := (((a0.take p20.toNat).drop 0) ++ ([(api_Cell.mk a1.fFrom a1.fTo (w64 (a1.fSamples + x40.fSamples)) (w64 (a1.fBytes + x41.fBytes)))] : List api_Cell)).map e_api_Cell) (len := (((a0.take p20.toNat).drop 0) ++ ([(api_Cell.mk a1.fFrom a1.fTo (w64 (a1.fSamples + x40.fSamples)) (w64 (a1.fBytes + x41.fBytes)))] : List api_Cell)).length) (by simp) (by simp) (map_sz (f := e_api_Cell) (fun _ => rfl)) (by rw [List.length_map]; exact lim_mulN hc42 (by decide)) (by rw [List.length_map]; exact lim_leN hc42) (L rfl) (by simp) (q 58) (q 60)) rfl (c (mv hN (q 0)) rfl (c (mv hN (q 5)) rfl (c (OpJ.cutD Try.underlying27 tyS23 (es' := ((a0.take a0.length).drop ((w64 (p20 + (1 : Int))).toNat)).map e_api_Cell) (l := (w64 (p20 + (1 : Int))).toNat) (h := a0.length) (.inr ⟨_, _, _, rfl, (ot 63 (i6 (w64 (p20 + (1 : Int))))), (of_decide_eq_true (and_l2 (and_l2 hc43))), rfl⟩) (.inl ⟨rfl, by simp, rfl⟩) (of_decide_eq_true (and_r2 (and_l2 hc43))) (by first | (simp; done) | simpa using (of_decide_eq_true (and_r2 hc43))) (by first | rw [List.map_drop, List.map_take] | simp [List.map_take, List.map_drop]) (L rfl) (q 62)) rfl (cg (OpJ.append hB Try.underlying27 tyE23 (nm := 1065) (by decide) (es := (((a0.take p20.toNat).drop 0) ++ ([(api_Cell.mk a1.fFrom a1.fTo (w64 (a1.fSamples + x40.fSamples)) (w64 (a1.fBytes + x41.fBytes)))] : List api_Cell)).map e_api_Cell) (ys := ((a0.take a0.length).drop ((w64 (p20 + (1 : Int))).toNat)).map e_api_Cell) (es' := ((((a0.take p20.toNat).drop 0) ++ ([(api_Cell.mk a1.fFrom a1.fTo (w64 (a1.fSamples + x40.fSamples)) (w64 (a1.fBytes + x41.fBytes)))] : List api_Cell)) ++ ((a0.take a0.length).drop ((w64 (p20 + (1 : Int))).toNat))).map e_api_Cell) (len := ((((a0.take p20.toNat).drop 0) ++ ([(api_Cell.mk a1.fFrom a1.fTo (w64 (a1.fSamples + x40.fSamples)) (w64 (a1.fBytes + x41.fBytes)))] : List api_Cell)) ++ ((a0.take a0.length).drop ((w64 (p20 + (1 : Int))).toNat))).length) (by simp) (by simp) (map_sz (f := e_api_Cell) (fun _ => rfl)) (by rw [List.length_map]; exact lim_mulN hc44 (by decide)) (by rw [List.length_map]; exact lim_leN hc44) (L rfl) (by simp) (q 61) (q 64)) rfl (c (OpJ.assign (L rfl) (q 65)) rfl cn))))))))) (by kernel_rfl) (by kernel_rfl) ?_
        refine gh [(4, _)] [(1065, some _)] hB rfl rfl (by rfl) ?_
        refine AWp.ret ?_
        refine seqQ_r ?_
        obtain rfl := Option.some.inj h
        exact ⟨.inl rfl, _, _, (Mat.trans (Mat.freezeP (n := 1065) (e := 23) (sz := 4) (es := ((((a0.take p20.toNat).drop 0) ++ ([(api_Cell.mk a1.fFrom a1.fTo (w64 (a1.fSamples + x40.fSamples)) (w64 (a1.fBytes + x41.fBytes)))] : List api_Cell)) ++ ((a0.take a0.length).drop ((w64 (p20 + (1 : Int))).toNat))).map e_api_Cell) (Ts := [(4, (qe_api_Cell_4 ((((a0.take p20.toNat).drop 0) ++ ([(api_Cell.mk a1.fFrom a1.fTo (w64 (a1.fSamples + x40.fSamples)) (w64 (a1.fBytes + x41.fBytes)))] : List api_Cell)) ++ ((a0.take a0.length).drop ((w64 (p20 + (1 : Int))).toNat)))))]) (Bs := []) (by rfl) (TwT.cons (x := (.sref 1065 4 0 (((((a0.take p20.toNat).drop 0) ++ ([(api_Cell.mk a1.fFrom a1.fTo (w64 (a1.fSamples + x40.fSamples)) (w64 (a1.fBytes + x41.fBytes)))] : List api_Cell)) ++ ((a0.take a0.length).drop ((w64 (p20 + (1 : Int))).toNat))).length))) (by rfl) (FrzL.all (by first | rfl | (simp; done) | (simp; omega))) TwT.nil) TwB.nil) (mp [] [(4, (qe_api_Cell_4 ((((a0.take p20.toNat).drop 0) ++ ([(api_Cell.mk a1.fFrom a1.fTo (w64 (a1.fSamples + x40.fSamples)) (w64 (a1.fBytes + x41.fBytes)))] : List api_Cell)) ++ ((a0.take a0.length).drop ((w64 (p20 + (1 : Int))).toNat)))))] [] hB)), [(qe_api_Cell_4 ((((a0.take p20.toNat).drop 0) ++ ([(api_Cell.mk a1.fFrom a1.fTo (w64 (a1.fSamples + x40.fSamples)) (w64 (a1.fBytes + x41.fBytes)))] : List api_Cell)) ++ ((a0.take a0.length).drop ((w64 (p20 + (1 : Int))).toNat))))], (Res.tmp (by rfl) (by rfl) Res.nil), rfl, by rfl, by rfl, by rfl⟩
      · replace h := ite_f hg39 h
        refine AWp.skip ?_
        refine seqQ_n ?_
        obtain ⟨hc45, h⟩ := chk_some h
        obtain ⟨hc46, h⟩ := chk_some h
        obtain ⟨hc47, h⟩ := chk_some h
        refine sd (c (mv hN (q 6)) rfl (c (lb hN 23 _ _ tyS23 (At.here _) (q 3)) rfl (c (OpJ.buildSlice Try.underlying27 tyS23 tyZD23 (by rfl) (by decide) (by decide) (Opds.cons (q 67) Opds.nil) (by kernel_rfl) (es := ([(e_api_Cell a1)] : List D)) (by rfl) (by rfl) (by kernel_rfl) (by simp) (L rfl)) rfl (cg (OpJ.append hB Try.underlying27 tyE23 (nm := 1069) (by decide) (es := ((a0.take p20.toNat).drop 0).map e_api_Cell) (ys := ([a1] : List api_Cell).map e_api_Cell) (es' := (((a0.take p20.toNat).drop 0) ++ ([a1] : List api_Cell)).map e_api_Cell) (len := (((a0.take p20.toNat).drop 0) ++ ([a1] : List api_Cell)).length) (by simp) (by simp) (map_sz (f := e_api_Cell) (fun _ => rfl)) (by rw [List.length_map]; exact lim_mulN hc45 (by decide)) (by rw [List.length_map]; exact lim_leN hc45) (L rfl) (by simp) (q 66) (q 68)) rfl (c (mv hN (q 0)) rfl (c (mv hN (q 5)) rfl (c (OpJ.cutD Try.underlying27 tyS23 (es' := ((a0.take a0.length).drop p20.toNat).map e_api_Cell) (l := p20.toNat) (h := a0.length) (.inr ⟨_, _, _, rfl, (ot 71 (i6 p20)), (of_decide_eq_true (and_l2 (and_l2 hc46))), rfl⟩) (.inl ⟨rfl, by simp, rfl⟩) (of_decide_eq_true (and_r2 (and_l2 hc46))) (by first | (simp; done) | simpa using (of_decide_eq_true (and_r2 hc46))) (by first | rw [List.map_drop, List.map_take] | simp [List.map_take, List.map_drop]) (L rfl) (q 70)) rfl (cg (OpJ.append hB Try.underlying27 tyE23 (nm := 1073) (by decide) (es := (((a0.take p20.toNat).drop 0) ++ ([a1] : List api_Cell)).map e_api_Cell) (ys := ((a0.take a0.length).drop p20.toNat).map e_api_Cell) (es' := ((((a0.take p20.toNat).drop 0) ++ ([a1] : List api_Cell)) ++ ((a0.take a0.length).drop p20.toNat)).map e_api_Cell) (len := ((((a0.take p20.toNat).drop 0) ++ ([a1] : List api_Cell)) ++ ((a0.take a0.length).drop p20.toNat)).length) (by simp) (by simp) (map_sz (f := e_api_Cell) (fun _ => rfl)) (by rw [List.length_map]; exact lim_mulN hc47 (by decide)) (by rw [List.length_map]; exact lim_leN hc47) (L rfl) (by simp) (q 69) (q 72)) rfl (c (OpJ.assign (L rfl) (q 73)) rfl cn))))))))) (by kernel_rfl) (by kernel_rfl) ?_
        refine gh [(4, _)] [(1073, some _)] hB rfl rfl (by rfl) ?_
        refine AWp.ret ?_
        obtain rfl := Option.some.inj h
        exact ⟨.inl rfl, _, _, (Mat.trans (Mat.freezeP (n := 1073) (e := 23) (sz := 4) (es := ((((a0.take p20.toNat).drop 0) ++ ([a1] : List api_Cell)) ++ ((a0.take a0.length).drop p20.toNat)).map e_api_Cell) (Ts := [(4, (qe_api_Cell_4 ((((a0.take p20.toNat).drop 0) ++ ([a1] : List api_Cell)) ++ ((a0.take a0.length).drop p20.toNat))))]) (Bs := []) (by rfl) (TwT.cons (x := (.sref 1073 4 0 (((((a0.take p20.toNat).drop 0) ++ ([a1] : List api_Cell)) ++ ((a0.take a0.length).drop p20.toNat)).length))) (by rfl) (FrzL.all (by first | rfl | (simp; done) | (simp; omega))) TwT.nil) TwB.nil) (mp [] [(4, (qe_api_Cell_4 ((((a0.take p20.toNat).drop 0) ++ ([a1] : List api_Cell)) ++ ((a0.take a0.length).drop p20.toNat))))] [] hB)), [(qe_api_Cell_4 ((((a0.take p20.toNat).drop 0) ++ ([a1] : List api_Cell)) ++ ((a0.take a0.length).drop p20.toNat)))], (Res.tmp (by rfl) (by rfl) Res.nil), rfl, by rfl, by rfl, by rfl⟩
    · rcases Bool.eq_false_or_eq_true (decide (p20 < (a0.length : Int))) with hg48 | hg48
      · replace h := ite_t hg48 h
        obtain ⟨x49, hx49, h⟩ := bindS h
        obtain ⟨r50, hr50, h⟩ := bindS h
        refine dr (c (mv hN (q 5)) rfl (c (mv hN (q 0)) rfl (c (OpJ.val (v' := (i6 (a0.length : Int))) (by simp) (OpJ.lenD Try.underlying27 (L rfl) (q 26))) rfl (c (OpJ.lss (L rfl) (q 25) (q 27)) rfl (c (OpJ.val (v' := .d (.bool true)) (by rw [hg48]) (mv hN (q 28))) rfl (c (OpJ.guarded (g := 29) (by rfl) (lb hN 23 _ _ tyS23 (At.here _) (q 3))) rfl (c (OpJ.guarded (g := 29) (by rfl) (mv hN (q 0))) rfl (c (OpJ.guarded (g := 29) (by rfl) (mv hN (q 5))) rfl (c (OpJ.guarded (g := 29) (by rfl) (OpJ.indexD Try.underlying27 tyS23 (idx_some hx49).1 (get_map e_api_Cell (idx_some hx49).2) (L rfl) (q 31) (q 32))) rfl (c (OpJ.guarded (g := 29) (by rfl) (OpJ.loadD tyS23 (by rfl) (by rfl) (L rfl) (q 33))) rfl (cg (OpJ.guarded (g := 29) (by rfl) (OpJ.callFn hB fnOk40 (exchangepointref38_less_ac a1 x49 r50 hr50) [] (by kernel_rfl) (L rfl) (by kernel_rfl) (OpdL.cons (q 30) (OpdL.cons (q 34) OpdL.nil)))) rfl (c (OpJ.guarded (g := 29) (by rfl) (OpJ.not (L rfl) (q 35))) rfl (c (OpJ.pickT (L rfl) (q 29) (q 36)) rfl cn))))))))))))) (by kernel_rfl) (by kernel_rfl) ?_
        exact hjj38 _ h _ _ (Mat.trans (mp [] [(0, (qe_api_Cell_4 a0)), (3, (.ptr 1003 0 [])), (5, (i6 p20)), (6, (.sref 1024 4 0 (((a0.take p20.toNat).drop 0).length))), (37, (bo (!r50)))] [(1003, some (.box 23 (.d (e_api_Cell a1)))), (1024, some (we_api_Cell_23_4 ((a0.take p20.toNat).drop 0)))] hB) (mp [] _ _ hB))
      · replace h := ite_f hg48 h
        refine dr (c (mv hN (q 5)) rfl (c (mv hN (q 0)) rfl (c (OpJ.val (v' := (i6 (a0.length : Int))) (by simp) (OpJ.lenD Try.underlying27 (L rfl) (q 26))) rfl (c (OpJ.lss (L rfl) (q 25) (q 27)) rfl (c (OpJ.val (v' := .d (.bool false)) (by rw [hg48]) (mv hN (q 28))) rfl (cg (OpJ.skipU (g := 29) (L rfl) (by rfl)) rfl (cg (OpJ.skipU (g := 29) (L rfl) (by rfl)) rfl (cg (OpJ.skipU (g := 29) (L rfl) (by rfl)) rfl (cg (OpJ.skipU (g := 29) (L rfl) (by rfl)) rfl (cg (OpJ.skipU (g := 29) (L rfl) (by rfl)) rfl (cg (OpJ.skipU (g := 29) (L rfl) (by rfl)) rfl (cg (OpJ.skipU (g := 29) (L rfl) (by rfl)) rfl (c (OpJ.pickF (L rfl) (q 29) (Opd.bool false)) rfl cn))))))))))))) (by kernel_rfl) (by kernel_rfl) ?_
        exact hjj38 _ h _ _ (Mat.trans (mp [] [(0, (qe_api_Cell_4 a0)), (3, (.ptr 1003 0 [])), (5, (i6 p20)), (6, (.sref 1024 4 0 (((a0.take p20.toNat).drop 0).length))), (37, (bo false))] [(1003, some (.box 23 (.d (e_api_Cell a1)))), (1024, some (we_api_Cell_23_4 ((a0.take p20.toNat).drop 0)))] hB) (mp [] _ _ hB))

noncomputable def exchangepointref38_Cells_L0 (a0 : (List api_Sample)) (a1 : (List api_Rule)) (s3 : Int × Int) : Option (((Unit) ⊕ (Int)) ⊕ (Int × Int)) :=
  (if (decide (s3.2 < (a0.length : Int))) = true then
  (idx a0 s3.2).bind fun x43 =>
  (exchangepointref38_owner a1 x43.fIn).bind fun r44 =>
  (exchangepointref38_owner a1 x43.fOut).bind fun r45 =>
  (if ((!r44.2) || (!r45.2)) = true then
  some (.inl (.inl ()))
  else
  jn (fun m51 : Bool =>
  jn (fun m54 : Int =>
  some (.inr (m54, (w64 (s3.2 + (1 : Int)))))) (fun j55 =>
  (if m51 = true then
  j55 (1 : Int)
  else
  j55 s3.1))) (fun j52 =>
  (exchangepointref38_asn r44.1).bind fun r57 =>
  (if (!r57) = true then
  j52 true
  else
  (exchangepointref38_asn r45.1).bind fun r59 =>
  j52 (!r59))))
  else
  some (.inl (.inr s3.1)))
noncomputable def exchangepointref38_Cells_L1 (a0 : (List api_Sample)) (a1 : (List api_Rule)) (s63 : (List api_Cell) × Int) : Option ((((List api_Cell))) ⊕ ((List api_Cell) × Int)) :=
  (if (decide (s63.2 < (a0.length : Int))) = true then
  (idx a0 s63.2).bind fun x76 =>
  (exchangepointref38_owner a1 x76.fIn).bind fun r77 =>
  (exchangepointref38_owner a1 x76.fOut).bind fun r78 =>
  (exchangepointref38_put s63.1 (api_Cell.mk r77.1 r78.1 (1 : Int) x76.fBytes)).bind fun r79 =>
  some (.inr (r79, (w64 (s63.2 + (1 : Int)))))
  else
  some (.inl s63.1))
noncomputable def exchangepointref38_Cells (a0 : (List api_Sample)) (a1 : (List api_Rule)) : Option ((List api_Cell) × Int) :=
  (exchangepointref37_Valid a0).bind fun r1 =>
  (if (!r1) = true then
  some (([] : List api_Cell), (1 : Int))
  else
  (loop (exchangepointref38_Cells_L0 a0 a1) ((0 : Int), (0 : Int))).bind fun x60 => match x60 with
  | (.inl _) =>
    some (([] : List api_Cell), (7 : Int))
  | (.inr p41) =>
    (if (p41 != (0 : Int)) = true then
    some (([] : List api_Cell), p41)
    else
    (loop (exchangepointref38_Cells_L1 a0 a1) (([] : List api_Cell), (0 : Int))).bind fun p74 =>
    (if (decide ((1024 : Int) < (p74.length : Int))) = true then
    some (([] : List api_Cell), (3 : Int))
    else
    some (p74, (0 : Int)))))
set_option maxHeartbeats 4000000 in
set_option maxRecDepth 100000 in
theorem exchangepointref38_Cells_ac (a0 : (List api_Sample)) (a1 : (List api_Rule)) (r : (List api_Cell) × Int) (h : exchangepointref38_Cells a0 a1 = some r) : AC Try.prog 13 [(.d (.list 6 (a0.map e_api_Sample))), (.d (.list 8 (a1.map e_api_Rule)))] [] (.tup [(.d (.list 4 (r.1.map e_api_Cell))), (.d (.int .i64 r.2))]) [] := by
  refine AC.of_code2 Try.func13 rfl rfl (Nat.le_of_ble_eq_true (by rfl)) fun B hB hN => ?_
  have L {d : Nat} (h : Nat.blt d Try.f13.ntmps = true) : d < B.N := ltN hN h
  delta exchangepointref38_Cells at h
  refine sr (c (OpJ.assign (L rfl) Opd.nils) rfl (c (OpJ.assign (L rfl) (Opd.int .i64 (0))) rfl cn)) ?_
  refine gh [(0, _), (1, _)] [] hB rfl rfl (by rfl) ?_
  refine AWp.seq ?_
  obtain ⟨r1, hr1, h⟩ := bindS h
  refine sr (c (mv hN (q 0)) rfl (cg (OpJ.callFn hB fnOk31 (exchangepointref37_Valid_ac a0 r1 hr1) [] (by kernel_rfl) (L rfl) (by kernel_rfl) (OpdL.cons (q 20) OpdL.nil)) rfl (c (OpJ.not (L rfl) (q 21)) rfl cn))) ?_
  refine gh [(0, _), (1, _), (22, _)] [] hB rfl rfl (by rfl) ?_
  refine AWp.cond rfl (fun hg2 => ?_) (fun hg2 => ?_)
  · replace h := ite_t hg2 h
    refine sr (c (OpJ.assign (L rfl) Opd.nils) rfl (c (OpJ.assign (L rfl) (Opd.int .i64 (1))) rfl cn)) ?_
    refine gh [(4, _), (5, _)] [] hB rfl rfl (by rfl) ?_
    refine AWp.ret ?_
    refine seqQ_r ?_
    obtain rfl := Option.some.inj h
    exact ⟨.inl rfl, _, _, (Mat.trans (Mat.coeP (Ts := [(4, (qe_api_Cell_4 ([] : List api_Cell)))]) (Bs := []) (TwT.cons (x := .nils) (by rfl) (Tw.leaf ⟨_, (Co.nils 4), rfl⟩) TwT.nil) TwB.nil) (mp [] [(4, (qe_api_Cell_4 ([] : List api_Cell))), (5, (i6 1))] [] hB)), [(qe_api_Cell_4 ([] : List api_Cell)), (i6 1)], (Res.tmp (by rfl) (by rfl) (Res.tmp (by rfl) (by rfl) Res.nil)), rfl, by rfl, by rfl, by rfl⟩
  · replace h := ite_f hg2 h
    refine AWp.skip ?_
    refine seqQ_n ?_
    refine sr (c (OpJ.assign (L rfl) (Opd.int .i64 (0))) rfl cn) ?_
    refine gh [(0, _), (1, _), (6, _)] [] hB rfl rfl (by rfl) ?_
    refine AWp.seq ?_
    refine sr (c (mv hN (q 0)) rfl (c (OpJ.val (v' := (i6 (a0.length : Int))) (by simp) (OpJ.lenD Try.underlying33 (L rfl) (q 23))) rfl (c (mv hN (Opd.int .i64 (0))) rfl cn))) ?_
    refine gh [(0, _), (1, _), (6, _), (23, _), (24, _), (25, _)] [] hB rfl rfl (by rfl) ?_
    refine AWp.block ?_
    obtain ⟨x60, hx61, h⟩ := bindS h
    refine lg (exchangepointref38_Cells_L0 a0 a1) (fun s3 : Int × Int => ([(0, (qe_api_Sample_6 a0)), (1, (qe_api_Rule_8 a1)), (6, (i6 s3.1)), (23, (qe_api_Sample_6 a0)), (24, (i6 (a0.length : Int))), (25, (i6 s3.2))] : EL)) (fun s3 : Int × Int => ([] : OL)) (fun (x : (Unit) ⊕ (Int)) e E' O' => match x with | (.inl _p) => e = .ret ∧ Mat B E' O' ([(4, .nils), (5, (i6 (7 : Int)))] : EL) ([] : OL) | (.inr p41) => e = .exit 0 ∧ Mat B E' O' ([(0, (qe_api_Sample_6 a0)), (1, (qe_api_Rule_8 a1)), (6, (i6 p41))] : EL) ([] : OL)) hx61 (mp [] _ _ hB) (fun s3 y h => ?_) (fun e E' O' hR => ?_)
    · unfold exchangepointref38_Cells_L0 at h
      refine sr (c (OpJ.lss (L rfl) (q 25) (q 24)) rfl cn) ?_
      refine gh [(0, _), (1, _), (6, _), (23, _), (24, _), (25, _), (26, _)] [] hB rfl rfl (by rfl) ?_
      refine AWp.seq ?_
      refine AWp.cond rfl (fun hg42 => ?_) (fun hg42 => ?_)
      · replace h := ite_t hg42 h
        refine AWp.skip ?_
        refine seqQ_n ?_
        refine AWp.seq ?_
        refine AWp.block ?_
        obtain ⟨x43, hx43, h⟩ := bindS h
        refine sr (c (OpJ.indexD Try.underlying33 tyS54 (idx_some hx43).1 (get_map e_api_Sample (idx_some hx43).2) (L rfl) (q 23) (q 25)) rfl (c (OpJ.loadD tyS54 (by rfl) (by rfl) (L rfl) (q 27)) rfl (cg (OpJ.alloc hB tyZ54 (nm := 1008) (by decide) (L rfl)) rfl (cg (OpJ.storeB tyS54 (SetAt.here _ _) (by rfl) (by rfl) (by simp) rfl (q 8) (q 28)) rfl cn)))) ?_
        refine gh [(0, _), (1, _), (6, _), (8, _), (23, _), (24, _), (25, _)] [(1008, some _)] hB rfl rfl (by rfl) ?_
        obtain ⟨r44, hr44, h⟩ := bindS h
        refine sr (c (mv hN (q 1)) rfl (c (ov (.ptr 1008 3 [3]) (fp hN Try.underlying54 3 tyS3 _ (q 8))) rfl (c (lb hN 54 _ _ tyS3 (ad _) (q 31)) rfl (cg (OpJ.callFn hB fnOk32 (exchangepointref38_owner_ac a1 x43.fIn r44 hr44) [] (by kernel_rfl) (L rfl) (by kernel_rfl) (OpdL.cons (q 30) (OpdL.cons (q 32) OpdL.nil))) rfl (c (mv hN (q 33)) rfl (c (OpJ.extract (by rfl) rfl (L rfl) (q 29)) rfl (c (OpJ.extract (by rfl) rfl (L rfl) (q 29)) rfl (c (OpJ.assign (L rfl) (q 34)) rfl (c (OpJ.assign (L rfl) (q 35)) rfl cn))))))))) ?_
        refine gh [(0, _), (1, _), (6, _), (8, _), (9, _), (10, _), (23, _), (24, _), (25, _)] [(1008, some _)] hB rfl rfl (by rfl) ?_
        obtain ⟨r45, hr45, h⟩ := bindS h
        refine sr (c (mv hN (q 1)) rfl (c (ov (.ptr 1008 4 [4]) (fp hN Try.underlying54 4 tyS3 _ (q 8))) rfl (c (lb hN 54 _ _ tyS3 (ad _) (q 38)) rfl (cg (OpJ.callFn hB fnOk32 (exchangepointref38_owner_ac a1 x43.fOut r45 hr45) [] (by kernel_rfl) (L rfl) (by kernel_rfl) (OpdL.cons (q 37) (OpdL.cons (q 39) OpdL.nil))) rfl (c (mv hN (q 40)) rfl (c (OpJ.extract (by rfl) rfl (L rfl) (q 36)) rfl (c (OpJ.extract (by rfl) rfl (L rfl) (q 36)) rfl (c (OpJ.assign (L rfl) (q 41)) rfl (c (OpJ.assign (L rfl) (q 42)) rfl cn))))))))) ?_
        refine gh [(0, _), (1, _), (6, _), (9, _), (10, _), (11, _), (12, _), (23, _), (24, _), (25, _)] [] hB rfl rfl (by rfl) ?_
        refine AWp.seq ?_
        refine sr (c (mv hN (q 10)) rfl (c (OpJ.not (L rfl) (q 43)) rfl (c (mv hN (q 44)) rfl (c (oq hN 45 (mv hN (q 12)) (OptL.keep (by rfl) OptL.nil) (GuardV.plain _)) rfl (c (oq hN 45 (OpJ.not (L rfl) (q 46)) (OptL.opt OptL.nil) (GuardV.plain _)) rfl (c (OpJ.pickOr rfl (L rfl) (q 45) (q 47)) rfl cn)))))) ?_
        refine gh [(0, _), (1, _), (6, _), (9, _), (11, _), (23, _), (24, _), (25, _), (48, _)] [] hB rfl rfl (by rfl) ?_
        refine AWp.cond rfl (fun hg46 => ?_) (fun hg46 => ?_)
        · replace h := ite_t hg46 h
          refine sr (c (OpJ.assign (L rfl) Opd.nils) rfl (c (OpJ.assign (L rfl) (Opd.int .i64 (7))) rfl cn)) ?_
          refine gh [(4, _), (5, _)] [] hB rfl rfl (by rfl) ?_
          refine AWp.ret ?_
          refine seqQ_r ?_
          refine blkQ_r ?_
          refine seqQ_r ?_
          obtain rfl := Option.some.inj h
          exact ⟨(fun hc => by cases hc), rfl, (mp [] _ _ hB)⟩
        · replace h := ite_f hg46 h
          refine AWp.skip ?_
          refine seqQ_n ?_
          refine AWp.seq ?_
          refine AWp.cut h (fun m51 : Bool => ([(0, (qe_api_Sample_6 a0)), (1, (qe_api_Rule_8 a1)), (6, (i6 s3.1)), (23, (qe_api_Sample_6 a0)), (24, (i6 (a0.length : Int))), (25, (i6 s3.2)), (56, (bo m51))] : EL)) (fun m51 : Bool => ([] : OL)) (fun m51 h E' O' hmat => ?_) (fun j52 hjj52 h => ?_)
          · refine seqQ_n ?_
            refine AWp.ghost hmat ?_
            refine AWp.cut h (fun m54 : Int => ([(0, (qe_api_Sample_6 a0)), (1, (qe_api_Rule_8 a1)), (6, (i6 m54)), (23, (qe_api_Sample_6 a0)), (24, (i6 (a0.length : Int))), (25, (i6 s3.2))] : EL)) (fun m54 : Int => ([] : OL)) (fun m54 h E' O' hmat => ?_) (fun j55 hjj55 h => ?_)
            · refine blkQ_n ?_
              refine seqQ_n ?_
              refine AWp.ghost hmat ?_
              refine rg (c (add6 (L rfl) (q 25) (Opd.int .i64 (1))) rfl (c (mv hN (q 57)) rfl cn)) ?_
              obtain rfl := Option.some.inj h
              exact ⟨rfl, (Mat.trans (mp [] [(0, (qe_api_Sample_6 a0)), (1, (qe_api_Rule_8 a1)), (6, (i6 m54)), (23, (qe_api_Sample_6 a0)), (24, (i6 (a0.length : Int))), (25, (i6 (w64 (s3.2 + (1 : Int)))))] [] hB) (mp [] _ _ hB))⟩
            · refine AWp.cond rfl (fun hg56 => ?_) (fun hg56 => ?_)
              · replace h := ite_t hg56 h
                refine rg (c (OpJ.assign (L rfl) (Opd.int .i64 (1))) rfl cn) ?_
                exact hjj55 _ h _ _ (Mat.trans (mp [] [(0, (qe_api_Sample_6 a0)), (1, (qe_api_Rule_8 a1)), (6, (i6 1)), (23, (qe_api_Sample_6 a0)), (24, (i6 (a0.length : Int))), (25, (i6 s3.2))] [] hB) (mp [] _ _ hB))
              · replace h := ite_f hg56 h
                refine AWp.skip ?_
                exact hjj55 _ h _ _ (mp [] _ _ hB)
          · obtain ⟨r57, hr57, h⟩ := bindS h
            rcases Bool.eq_false_or_eq_true (!r57) with hg58 | hg58
            · replace h := ite_t hg58 h
              refine rg (c (mv hN (q 9)) rfl (cg (OpJ.callFn hB fnOk33 (exchangepointref38_asn_ac r44.1 r57 hr57) [] (by kernel_rfl) (L rfl) (by kernel_rfl) (OpdL.cons (q 49) OpdL.nil)) rfl (c (OpJ.not (L rfl) (q 50)) rfl (c (OpJ.val (v' := .d (.bool true)) (by rw [hg58]) (mv hN (q 51))) rfl (cg (OpJ.skipU (g := 52) (L rfl) (by rfl)) rfl (cg (OpJ.skipU (g := 52) (L rfl) (by rfl)) rfl (cg (OpJ.skipU (g := 52) (L rfl) (by rfl)) rfl (c (OpJ.pickT (L rfl) (q 52) (Opd.bool true)) rfl cn)))))))) ?_
              exact hjj52 _ h _ _ (Mat.trans (mp [] [(0, (qe_api_Sample_6 a0)), (1, (qe_api_Rule_8 a1)), (6, (i6 s3.1)), (23, (qe_api_Sample_6 a0)), (24, (i6 (a0.length : Int))), (25, (i6 s3.2)), (56, (bo true))] [] hB) (mp [] _ _ hB))
            · replace h := ite_f hg58 h
              obtain ⟨r59, hr59, h⟩ := bindS h
              refine rg (c (mv hN (q 9)) rfl (cg (OpJ.callFn hB fnOk33 (exchangepointref38_asn_ac r44.1 r57 hr57) [] (by kernel_rfl) (L rfl) (by kernel_rfl) (OpdL.cons (q 49) OpdL.nil)) rfl (c (OpJ.not (L rfl) (q 50)) rfl (c (OpJ.val (v' := .d (.bool false)) (by rw [hg58]) (mv hN (q 51))) rfl (c (OpJ.guarded (g := 52) (by rfl) (mv hN (q 11))) rfl (cg (OpJ.guarded (g := 52) (by rfl) (OpJ.callFn hB fnOk33 (exchangepointref38_asn_ac r45.1 r59 hr59) [] (by kernel_rfl) (L rfl) (by kernel_rfl) (OpdL.cons (q 53) OpdL.nil))) rfl (c (OpJ.guarded (g := 52) (by rfl) (OpJ.not (L rfl) (q 54))) rfl (c (OpJ.pickF (L rfl) (q 52) (q 55)) rfl cn)))))))) ?_
              exact hjj52 _ h _ _ (Mat.trans (mp [] [(0, (qe_api_Sample_6 a0)), (1, (qe_api_Rule_8 a1)), (6, (i6 s3.1)), (23, (qe_api_Sample_6 a0)), (24, (i6 (a0.length : Int))), (25, (i6 s3.2)), (56, (bo (!r59)))] [] hB) (mp [] _ _ hB))
      · replace h := ite_f hg42 h
        refine AWp.exit ?_
        refine seqQ_e ?_
        obtain rfl := Option.some.inj h
        exact ⟨(fun hc => by cases hc), rfl, (mp [] _ _ hB)⟩
    · rcases x60 with _ | p41
      · obtain ⟨rfl, hmat⟩ := hR
        refine blkQ_r ?_
        refine seqQ_r ?_
        obtain rfl := Option.some.inj h
        exact ⟨.inl rfl, _, _, (Mat.trans hmat (Mat.trans (Mat.coeP (Ts := [(4, (qe_api_Cell_4 ([] : List api_Cell)))]) (Bs := []) (TwT.cons (x := .nils) (by rfl) (Tw.leaf ⟨_, (Co.nils 4), rfl⟩) TwT.nil) TwB.nil) (mp [] [(4, (qe_api_Cell_4 ([] : List api_Cell))), (5, (i6 (7 : Int)))] [] hB))), [(qe_api_Cell_4 ([] : List api_Cell)), (i6 (7 : Int))], (Res.tmp (by rfl) (by rfl) (Res.tmp (by rfl) (by rfl) Res.nil)), rfl, by rfl, by rfl, by rfl⟩
      · obtain ⟨rfl, hmat⟩ := hR
        refine blkQ_hit ?_
        refine seqQ_n ?_
        refine AWp.ghost hmat ?_
        refine AWp.seq ?_
        refine sr (c (mv hN (q 6)) rfl (c (OpJ.neqI (L rfl) (q 58) (Opd.int .i64 (0))) rfl cn)) ?_
        refine gh [(0, _), (1, _), (6, _), (59, _)] [] hB rfl rfl (by rfl) ?_
        refine AWp.cond rfl (fun hg62 => ?_) (fun hg62 => ?_)
        · replace h := ite_t hg62 h
          refine sr (c (mv hN (q 6)) rfl (c (OpJ.assign (L rfl) Opd.nils) rfl (c (OpJ.assign (L rfl) (q 60)) rfl cn))) ?_
          refine gh [(4, _), (5, _)] [] hB rfl rfl (by rfl) ?_
          refine AWp.ret ?_
          refine seqQ_r ?_
          obtain rfl := Option.some.inj h
          exact ⟨.inl rfl, _, _, (Mat.trans (Mat.coeP (Ts := [(4, (qe_api_Cell_4 ([] : List api_Cell)))]) (Bs := []) (TwT.cons (x := .nils) (by rfl) (Tw.leaf ⟨_, (Co.nils 4), rfl⟩) TwT.nil) TwB.nil) (mp [] [(4, (qe_api_Cell_4 ([] : List api_Cell))), (5, (i6 p41))] [] hB)), [(qe_api_Cell_4 ([] : List api_Cell)), (i6 p41)], (Res.tmp (by rfl) (by rfl) (Res.tmp (by rfl) (by rfl) Res.nil)), rfl, by rfl, by rfl, by rfl⟩
        · replace h := ite_f hg62 h
          refine AWp.skip ?_
          refine seqQ_n ?_
          refine sr (c (OpJ.assign (L rfl) Opd.nils) rfl cn) ?_
          refine gh [(0, _), (1, _), (13, _)] [] hB rfl rfl (by rfl) ?_
          refine AWp.seq ?_
          refine sr (c (mv hN (q 0)) rfl (c (OpJ.val (v' := (i6 (a0.length : Int))) (by simp) (OpJ.lenD Try.underlying33 (L rfl) (q 61))) rfl (c (mv hN (Opd.int .i64 (0))) rfl cn))) ?_
          refine gh [(1, _), (13, _), (61, _), (62, _), (63, _)] [] hB rfl rfl (by rfl) ?_
          refine AWp.block ?_
          obtain ⟨p74, hx81, h⟩ := bindS h
          refine lg (exchangepointref38_Cells_L1 a0 a1) (fun s63 : (List api_Cell) × Int => ([(1, (qe_api_Rule_8 a1)), (13, (qe_api_Cell_4 s63.1)), (61, (qe_api_Sample_6 a0)), (62, (i6 (a0.length : Int))), (63, (i6 s63.2))] : EL)) (fun s63 : (List api_Cell) × Int => ([] : OL)) (fun (p74 : ((List api_Cell))) e E' O' => e = .exit 2 ∧ Mat B E' O' ([(13, (qe_api_Cell_4 p74))] : EL) ([] : OL)) hx81 (Mat.trans (Mat.coeP (Ts := [(13, (qe_api_Cell_4 ([] : List api_Cell)))]) (Bs := []) (TwT.cons (x := .nils) (by rfl) (Tw.leaf ⟨_, (Co.nils 4), rfl⟩) TwT.nil) TwB.nil) (mp [] _ _ hB)) (fun s63 y h => ?_) (fun e E' O' hR => ?_)
          · unfold exchangepointref38_Cells_L1 at h
            refine sr (c (OpJ.lss (L rfl) (q 63) (q 62)) rfl cn) ?_
            refine gh [(1, _), (13, _), (61, _), (62, _), (63, _), (64, _)] [] hB rfl rfl (by rfl) ?_
            refine AWp.seq ?_
            refine AWp.cond rfl (fun hg75 => ?_) (fun hg75 => ?_)
            · replace h := ite_t hg75 h
              refine AWp.skip ?_
              refine seqQ_n ?_
              refine AWp.seq ?_
              refine AWp.block ?_
              obtain ⟨x76, hx76, h⟩ := bindS h
              refine sr (c (OpJ.indexD Try.underlying33 tyS54 (idx_some hx76).1 (get_map e_api_Sample (idx_some hx76).2) (L rfl) (q 61) (q 63)) rfl (c (OpJ.loadD tyS54 (by rfl) (by rfl) (L rfl) (q 65)) rfl (cg (OpJ.alloc hB tyZ54 (nm := 1015) (by decide) (L rfl)) rfl (cg (OpJ.storeB tyS54 (SetAt.here _ _) (by rfl) (by rfl) (by simp) rfl (q 15) (q 66)) rfl cn)))) ?_
              refine gh [(1, _), (13, _), (15, _), (61, _), (62, _), (63, _)] [(1015, some _)] hB rfl rfl (by rfl) ?_
              obtain ⟨r77, hr77, h⟩ := bindS h
              refine sr (c (mv hN (q 1)) rfl (c (ov (.ptr 1015 3 [3]) (fp hN Try.underlying54 3 tyS3 _ (q 15))) rfl (c (lb hN 54 _ _ tyS3 (ad _) (q 69)) rfl (cg (OpJ.callFn hB fnOk32 (exchangepointref38_owner_ac a1 x76.fIn r77 hr77) [] (by kernel_rfl) (L rfl) (by kernel_rfl) (OpdL.cons (q 68) (OpdL.cons (q 70) OpdL.nil))) rfl (c (mv hN (q 71)) rfl (c (OpJ.extract (by rfl) rfl (L rfl) (q 67)) rfl (c (OpJ.extract (by rfl) rfl (L rfl) (q 67)) rfl (c (OpJ.assign (L rfl) (q 72)) rfl (c (OpJ.assign (L rfl) (q 73)) rfl cn))))))))) ?_
              refine gh [(1, _), (13, _), (15, _), (16, _), (61, _), (62, _), (63, _)] [(1015, some _)] hB rfl rfl (by rfl) ?_
              obtain ⟨r78, hr78, h⟩ := bindS h
              refine sr (c (mv hN (q 1)) rfl (c (ov (.ptr 1015 4 [4]) (fp hN Try.underlying54 4 tyS3 _ (q 15))) rfl (c (lb hN 54 _ _ tyS3 (ad _) (q 76)) rfl (cg (OpJ.callFn hB fnOk32 (exchangepointref38_owner_ac a1 x76.fOut r78 hr78) [] (by kernel_rfl) (L rfl) (by kernel_rfl) (OpdL.cons (q 75) (OpdL.cons (q 77) OpdL.nil))) rfl (c (mv hN (q 78)) rfl (c (OpJ.extract (by rfl) rfl (L rfl) (q 74)) rfl (c (OpJ.extract (by rfl) rfl (L rfl) (q 74)) rfl (c (OpJ.assign (L rfl) (q 79)) rfl (c (OpJ.assign (L rfl) (q 80)) rfl cn))))))))) ?_
              refine gh [(1, _), (13, _), (15, _), (16, _), (18, _), (61, _), (62, _), (63, _)] [(1015, some _)] hB rfl rfl (by rfl) ?_
              obtain ⟨r79, hr79, h⟩ := bindS h
              refine rg (c (mv hN (q 13)) rfl (c (mv hN (q 16)) rfl (c (mv hN (q 18)) rfl (c (ov (.ptr 1015 5 [5]) (fp hN Try.underlying54 5 tyS3 _ (q 15))) rfl (c (lb hN 54 _ _ tyS3 (ad _) (q 84)) rfl (c (OpJ.coe (v := (.st [(i6 r77.1), (i6 r78.1), (i6 1), (i6 x76.fBytes)])) (y := (.st [(.int .i64 r77.1), (.int .i64 r78.1), (.int .i64 1), (.int .i64 x76.fBytes)])) (Co.st (CoL.cons (Co.d _) (CoL.cons (Co.d _) (CoL.cons (Co.d _) (CoL.cons (Co.d _) CoL.nil))))) rfl (OpJ.build (places := [(0, 1), (1, 1), (2, 1), (3, 1)]) ⟨Try.underlying23, fun w => by kernel_rfl⟩ tyZS23 (Opds.cons (q 82) (Opds.cons (q 83) (Opds.cons (Opd.int .i64 (1)) (Opds.cons (q 85) Opds.nil)))) (by kernel_rfl) (r := (.st [(i6 r77.1), (i6 r78.1), (i6 1), (i6 x76.fBytes)])) (by rfl) (L rfl))) rfl (cg (OpJ.callFn hB fnOk34 (exchangepointref38_put_ac s63.1 (api_Cell.mk r77.1 r78.1 (1 : Int) x76.fBytes) r79 hr79) [] (by kernel_rfl) (L rfl) (by kernel_rfl) (OpdL.cons (q 81) (OpdL.cons (q 86) OpdL.nil))) rfl (c (OpJ.assign (L rfl) (q 87)) rfl cn)))))))) ?_
              refine blkQ_n ?_
              refine seqQ_n ?_
              refine gh [(1, _), (13, _), (61, _), (62, _), (63, _)] [] hB rfl rfl (by rfl) ?_
              refine rg (c (add6 (L rfl) (q 63) (Opd.int .i64 (1))) rfl (c (mv hN (q 88)) rfl cn)) ?_
              obtain rfl := Option.some.inj h
              exact ⟨rfl, (Mat.trans (mp [] [(1, (qe_api_Rule_8 a1)), (13, (qe_api_Cell_4 r79)), (61, (qe_api_Sample_6 a0)), (62, (i6 (a0.length : Int))), (63, (i6 (w64 (s63.2 + (1 : Int)))))] [] hB) (mp [] _ _ hB))⟩
            · replace h := ite_f hg75 h
              refine AWp.exit ?_
              refine seqQ_e ?_
              obtain rfl := Option.some.inj h
              exact ⟨(fun hc => by cases hc), rfl, (mp [] _ _ hB)⟩
          · obtain ⟨rfl, hmat⟩ := hR
            refine blkQ_hit ?_
            refine seqQ_n ?_
            refine AWp.ghost hmat ?_
            refine AWp.seq ?_
            refine sr (c (mv hN (q 13)) rfl (c (OpJ.val (v' := (i6 (p74.length : Int))) (by simp) (OpJ.lenD Try.underlying27 (L rfl) (q 89))) rfl (c (OpJ.gtr (L rfl) (q 90) (Opd.int .i64 (1024))) rfl cn))) ?_
            refine gh [(13, _), (91, _)] [] hB rfl rfl (by rfl) ?_
            refine AWp.cond rfl (fun hg82 => ?_) (fun hg82 => ?_)
            · replace h := ite_t hg82 h
              refine sr (c (OpJ.assign (L rfl) Opd.nils) rfl (c (OpJ.assign (L rfl) (Opd.int .i64 (3))) rfl cn)) ?_
              refine gh [(4, _), (5, _)] [] hB rfl rfl (by rfl) ?_
              refine AWp.ret ?_
              refine seqQ_r ?_
              obtain rfl := Option.some.inj h
              exact ⟨.inl rfl, _, _, (Mat.trans (Mat.coeP (Ts := [(4, (qe_api_Cell_4 ([] : List api_Cell)))]) (Bs := []) (TwT.cons (x := .nils) (by rfl) (Tw.leaf ⟨_, (Co.nils 4), rfl⟩) TwT.nil) TwB.nil) (mp [] [(4, (qe_api_Cell_4 ([] : List api_Cell))), (5, (i6 (3 : Int)))] [] hB)), [(qe_api_Cell_4 ([] : List api_Cell)), (i6 (3 : Int))], (Res.tmp (by rfl) (by rfl) (Res.tmp (by rfl) (by rfl) Res.nil)), rfl, by rfl, by rfl, by rfl⟩
            · replace h := ite_f hg82 h
              refine AWp.skip ?_
              refine seqQ_n ?_
              refine sr (c (mv hN (q 13)) rfl (c (OpJ.assign (L rfl) (q 92)) rfl (c (OpJ.assign (L rfl) (Opd.int .i64 (0))) rfl cn))) ?_
              refine gh [(4, _), (5, _)] [] hB rfl rfl (by rfl) ?_
              refine AWp.ret ?_
              obtain rfl := Option.some.inj h
              exact ⟨.inl rfl, _, _, (kp [(4, _), (5, _)] [] hB rfl rfl (by rfl)), [(qe_api_Cell_4 p74), (i6 0)], (Res.tmp (by rfl) (by rfl) (Res.tmp (by rfl) (by rfl) Res.nil)), rfl, by rfl, by rfl, by rfl⟩


end Go.Proofs.Ytpdfmjkfplgkfaa

/- Printed by gen.py: the Go functions as plain functions, and that the code does what they say. -/
import Derived.Test.YtpdfmjkfplgkfaaChecked
import Derived.Test.YtpdfmjkfplgkfaaVcYB
import Derived.Test.YtpdfmjkfplgkfaaVcZ
import Derived.KernelRfl
import Derived.Test.YtpdfmjkfplgkfaaVcMD
import Derived.Test.YtpdfmjkfplgkfaaVcME
import Derived.Test.YtpdfmjkfplgkfaaVcSG
import Derived.Test.YtpdfmjkfplgkfaaFnsA
import Derived.Test.YtpdfmjkfplgkfaaExt
namespace Go.Proofs.Ytpdfmjkfplgkfaa
open Go Go.Vc
noncomputable def exchangepointref38_less (a0 : api_Cell) (a1 : api_Cell) : Option (Bool) :=
  jn (fun m2 : Bool =>
  some m2) (fun j3 =>
  (if (decide (a0.fFrom < a1.fFrom)) = true then
  j3 true
  else
  j3 ((a0.fFrom == a1.fFrom) && (decide (a0.fTo < a1.fTo)))))
set_option maxHeartbeats 4000000 in
set_option maxRecDepth 100000 in
theorem exchangepointref38_less_ac (a0 : api_Cell) (a1 : api_Cell) (r : Bool) (h : exchangepointref38_less a0 a1 = some r) : AC Try.prog 40 [(.d (e_api_Cell a0)), (.d (e_api_Cell a1))] [] (.d (.bool r)) [] := by
  refine AC.of_code2 Try.func40 rfl rfl (Nat.le_of_ble_eq_true (by rfl)) fun B hB hN => ?_
  have L {d : Nat} (h : Nat.blt d Try.f40.ntmps = true) : d < B.N := ltN hN h
  delta exchangepointref38_less at h
  refine sr (cg (OpJ.box hB (nm := 1002) (by decide) (by simp) rfl (L rfl) (q 0)) rfl (cg (OpJ.box hB (nm := 1003) (by decide) (by simp) rfl (L rfl) (q 1)) rfl (c (OpJ.assign (L rfl) (Opd.bool false)) rfl cn))) ?_
  refine gh [(2, _), (3, _)] [(1002, some _), (1003, some _)] hB rfl rfl (by rfl) ?_
  refine AWp.seq ?_
  refine AWp.cut h (fun m2 : Bool => ([(4, (bo m2))] : EL)) (fun m2 : Bool => ([] : OL)) (fun m2 h E' O' hmat => ?_) (fun j3 hjj3 h => ?_)
  · refine seqQ_n ?_
    refine AWp.ghost hmat ?_
    refine AWp.ret ?_
    obtain rfl := Option.some.inj h
    exact ⟨.inl rfl, _, _, (kp [(4, _)] [] hB rfl rfl (by rfl)), [(bo m2)], (Res.tmp (by rfl) (by rfl) Res.nil), rfl, by rfl, by rfl, by rfl⟩
  · rcases Bool.eq_false_or_eq_true (decide (a0.fFrom < a1.fFrom)) with hg4 | hg4
    · replace h := ite_t hg4 h
      refine rg (c (ov (.ptr 1002 0 [0]) (fp hN Try.underlying23 0 tyS3 _ (q 2))) rfl (c (lb hN 23 _ _ tyS3 (ad _) (q 5)) rfl (c (ov (.ptr 1003 0 [0]) (fp hN Try.underlying23 0 tyS3 _ (q 3))) rfl (c (lb hN 23 _ _ tyS3 (ad _) (q 7)) rfl (c (OpJ.lss (L rfl) (q 6) (q 8)) rfl (c (OpJ.val (v' := .d (.bool true)) (by rw [hg4]) (mv hN (q 9))) rfl (cg (OpJ.skipU (g := 10) (L rfl) (by rfl)) rfl (cg (OpJ.skipU (g := 10) (L rfl) (by rfl)) rfl (cg (OpJ.skipU (g := 10) (L rfl) (by rfl)) rfl (cg (OpJ.skipU (g := 10) (L rfl) (by rfl)) rfl (cg (OpJ.skipU (g := 10) (L rfl) (by rfl)) rfl (cg (OpJ.skipU (g := 10) (L rfl) (by rfl)) rfl (cg (OpJ.skipV (g := 16) (L rfl) (by rfl)) rfl (cg (OpJ.skipV (g := 16) (L rfl) (by rfl)) rfl (cg (OpJ.skipV (g := 16) (L rfl) (by rfl)) rfl (cg (OpJ.skipV (g := 16) (L rfl) (by rfl)) rfl (cg (OpJ.skipV (g := 16) (L rfl) (by rfl)) rfl (cg (OpJ.skipU (g := 10) (L rfl) (by rfl)) rfl (c (OpJ.pickT (L rfl) (q 10) (Opd.bool true)) rfl (c (OpJ.assign (L rfl) (q 23)) rfl cn)))))))))))))))))))) ?_
      exact hjj3 _ h _ _ (Mat.trans (mp [] [(4, (bo true))] [] hB) (mp [] _ _ hB))
    · replace h := ite_f hg4 h
      refine rg (c (ov (.ptr 1002 0 [0]) (fp hN Try.underlying23 0 tyS3 _ (q 2))) rfl (c (lb hN 23 _ _ tyS3 (ad _) (q 5)) rfl (c (ov (.ptr 1003 0 [0]) (fp hN Try.underlying23 0 tyS3 _ (q 3))) rfl (c (lb hN 23 _ _ tyS3 (ad _) (q 7)) rfl (c (OpJ.lss (L rfl) (q 6) (q 8)) rfl (c (OpJ.val (v' := .d (.bool false)) (by rw [hg4]) (mv hN (q 9))) rfl (c (OpJ.guarded (g := 10) (by rfl) (ov (.ptr 1002 0 [0]) (fp hN Try.underlying23 0 tyS3 _ (q 2)))) rfl (c (OpJ.guarded (g := 10) (by rfl) (lb hN 23 _ _ tyS3 (ad _) (q 11))) rfl (c (OpJ.guarded (g := 10) (by rfl) (ov (.ptr 1003 0 [0]) (fp hN Try.underlying23 0 tyS3 _ (q 3)))) rfl (c (OpJ.guarded (g := 10) (by rfl) (lb hN 23 _ _ tyS3 (ad _) (q 13))) rfl (c (OpJ.guarded (g := 10) (by rfl) (OpJ.eqlI (L rfl) (q 12) (q 14))) rfl (c (OpJ.guarded (g := 10) (by rfl) (mv hN (q 15))) rfl (c (oq hN 16 (ov (.ptr 1002 1 [1]) (fp hN Try.underlying23 1 tyS3 _ (q 2))) (OptL.keep (by rfl) OptL.nil) (GuardV.plain _)) rfl (c (oq hN 16 (lb hN 23 _ _ tyS3 (ad _) (q 17)) (OptL.opt OptL.nil) (GuardV.plain _)) rfl (c (oq hN 16 (ov (.ptr 1003 1 [1]) (fp hN Try.underlying23 1 tyS3 _ (q 3))) (OptL.keep (by rfl) OptL.nil) (GuardV.plain _)) rfl (c (oq hN 16 (lb hN 23 _ _ tyS3 (ad _) (q 19)) (OptL.opt OptL.nil) (GuardV.plain _)) rfl (c (oq hN 16 (OpJ.lss (L rfl) (q 18) (q 20)) (OptL.opt (OptL.opt OptL.nil)) (GuardV.plain _)) rfl (c (OpJ.guarded (g := 10) (by rfl) (OpJ.pickAnd rfl (L rfl) (q 16) (q 21))) rfl (c (OpJ.pickF (L rfl) (q 10) (q 22)) rfl (c (OpJ.assign (L rfl) (q 23)) rfl cn)))))))))))))))))))) ?_
      exact hjj3 _ h _ _ (Mat.trans (mp [] [(4, (bo ((a0.fFrom == a1.fFrom) && (decide (a0.fTo < a1.fTo)))))] [] hB) (mp [] _ _ hB))

noncomputable def exchangepointref38_put_L0 (a0 : (List api_Cell)) (a1 : api_Cell) (s1 : Int) : Option (((Int)) ⊕ (Int)) :=
  jn (fun m24 : Bool =>
  (if m24 = true then
  some (.inr (w64 (s1 + (1 : Int))))
  else
  some (.inl s1))) (fun j25 =>
  (if (decide (s1 < (a0.length : Int))) = true then
  (idx a0 s1).bind fun x28 =>
  (exchangepointref38_less x28 a1).bind fun r29 =>
  j25 r29
  else
  j25 false))
noncomputable def exchangepointref38_put (a0 : (List api_Cell)) (a1 : api_Cell) : Option ((List api_Cell)) :=
  (loop (exchangepointref38_put_L0 a0 a1) (0 : Int)).bind fun p20 =>
  chk ((decide (0 ≤ p20) && decide (0 ≤ p20.toNat) && decide (p20.toNat ≤ a0.length))) <|
  chk (decide (((a0.take p20.toNat).drop 0).length ≤ LIM)) <|
  jn (fun m37 : Bool =>
  (if m37 = true then
  (idx a0 p20).bind fun x40 =>
  (idx a0 p20).bind fun x41 =>
  chk (decide ((((a0.take p20.toNat).drop 0) ++ ([(api_Cell.mk a1.fFrom a1.fTo (w64 (a1.fSamples + x40.fSamples)) (w64 (a1.fBytes + x41.fBytes)))] : List api_Cell)).length ≤ LIM)) <|
  chk ((decide (0 ≤ (w64 (p20 + (1 : Int)))) && decide ((w64 (p20 + (1 : Int))).toNat ≤ a0.length) && decide (a0.length ≤ a0.length))) <|
  chk (decide (((((a0.take p20.toNat).drop 0) ++ ([(api_Cell.mk a1.fFrom a1.fTo (w64 (a1.fSamples + x40.fSamples)) (w64 (a1.fBytes + x41.fBytes)))] : List api_Cell)) ++ ((a0.take a0.length).drop ((w64 (p20 + (1 : Int))).toNat))).length ≤ LIM)) <|
  some ((((a0.take p20.toNat).drop 0) ++ ([(api_Cell.mk a1.fFrom a1.fTo (w64 (a1.fSamples + x40.fSamples)) (w64 (a1.fBytes + x41.fBytes)))] : List api_Cell)) ++ ((a0.take a0.length).drop ((w64 (p20 + (1 : Int))).toNat)))
  else
  chk (decide ((((a0.take p20.toNat).drop 0) ++ ([a1] : List api_Cell)).length ≤ LIM)) <|
  chk ((decide (0 ≤ p20) && decide (p20.toNat ≤ a0.length) && decide (a0.length ≤ a0.length))) <|
  chk (decide (((((a0.take p20.toNat).drop 0) ++ ([a1] : List api_Cell)) ++ ((a0.take a0.length).drop p20.toNat)).length ≤ LIM)) <|
  some ((((a0.take p20.toNat).drop 0) ++ ([a1] : List api_Cell)) ++ ((a0.take a0.length).drop p20.toNat)))) (fun j38 =>
  (if (decide (p20 < (a0.length : Int))) = true then
  (idx a0 p20).bind fun x49 =>
  (exchangepointref38_less a1 x49).bind fun r50 =>
  j38 (!r50)
  else
  j38 false))
set_option maxHeartbeats 4000000 in
set_option maxRecDepth 100000 in
theorem exchangepointref38_put_ac (a0 : (List api_Cell)) (a1 : api_Cell) (r : (List api_Cell)) (h : exchangepointref38_put a0 a1 = some r) : AC Try.prog 34 [(.d (.list 4 (a0.map e_api_Cell))), (.d (e_api_Cell a1))] [] (.d (.list 4 (r.map e_api_Cell))) [] := by
  refine AC.of_code2 Try.func34 rfl rfl (Nat.le_of_ble_eq_true (by rfl)) fun B hB hN => ?_
  have L {d : Nat} (h : Nat.blt d Try.f34.ntmps = true) : d < B.N := ltN hN h
  delta exchangepointref38_put at h
  refine sr (cg (OpJ.box hB (nm := 1003) (by decide) (by simp) rfl (L rfl) (q 1)) rfl (c (OpJ.assign (L rfl) Opd.nils) rfl cn)) ?_
  refine gh [(0, _), (3, _)] [(1003, some _)] hB rfl rfl (by rfl) ?_
  refine sr (c (OpJ.assign (L rfl) (Opd.int .i64 (0))) rfl cn) ?_
  refine gh [(0, _), (3, _), (5, _)] [(1003, some _)] hB rfl rfl (by rfl) ?_
  refine AWp.seq ?_
  refine AWp.block ?_
  obtain ⟨p20, hx31, h⟩ := bindS h
  refine lg (exchangepointref38_put_L0 a0 a1) (fun s1 : Int => ([(0, (qe_api_Cell_4 a0)), (3, (.ptr 1003 0 [])), (5, (i6 s1))] : EL)) (fun s1 : Int => ([(1003, some (.box 23 (.d (e_api_Cell a1))))] : OL)) (fun (p20 : (Int)) e E' O' => e = .exit 0 ∧ Mat B E' O' ([(0, (qe_api_Cell_4 a0)), (3, (.ptr 1003 0 [])), (5, (i6 p20))] : EL) ([(1003, some (.box 23 (.d (e_api_Cell a1))))] : OL)) hx31 (mp [] _ _ hB) (fun s1 y h => ?_) (fun e E' O' hR => ?_)
  · unfold exchangepointref38_put_L0 at h
    refine AWp.seq ?_
    refine AWp.seq ?_
    refine AWp.cut h (fun m24 : Bool => ([(0, (qe_api_Cell_4 a0)), (3, (.ptr 1003 0 [])), (5, (i6 s1)), (18, (bo m24))] : EL)) (fun m24 : Bool => ([(1003, some (.box 23 (.d (e_api_Cell a1))))] : OL)) (fun m24 h E' O' hmat => ?_) (fun j25 hjj25 h => ?_)
    · refine seqQ_n ?_
      refine AWp.ghost hmat ?_
      refine AWp.cond rfl (fun hg26 => ?_) (fun hg26 => ?_)
      · replace h := ite_t hg26 h
        refine AWp.skip ?_
        refine seqQ_n ?_
        refine AWp.block ?_
        refine rg (c (mv hN (q 5)) rfl (c (add6 (L rfl) (q 19) (Opd.int .i64 (1))) rfl (c (OpJ.assign (L rfl) (q 20)) rfl cn))) ?_
        refine blkQ_n ?_
        obtain rfl := Option.some.inj h
        exact ⟨rfl, (Mat.trans (mp [] [(0, (qe_api_Cell_4 a0)), (3, (.ptr 1003 0 [])), (5, (i6 (w64 (s1 + (1 : Int)))))] [(1003, some (.box 23 (.d (e_api_Cell a1))))] hB) (mp [] _ _ hB))⟩
      · replace h := ite_f hg26 h
        refine AWp.exit ?_
        refine seqQ_e ?_
        obtain rfl := Option.some.inj h
        exact ⟨(fun hc => by cases hc), rfl, (mp [] _ _ hB)⟩
    · rcases Bool.eq_false_or_eq_true (decide (s1 < (a0.length : Int))) with hg27 | hg27
      · replace h := ite_t hg27 h
        obtain ⟨x28, hx28, h⟩ := bindS h
        obtain ⟨r29, hr29, h⟩ := bindS h
        refine dr (c (mv hN (q 5)) rfl (c (mv hN (q 0)) rfl (c (OpJ.val (v' := (i6 (a0.length : Int))) (by simp) (OpJ.lenD Try.underlying27 (L rfl) (q 8))) rfl (c (OpJ.lss (L rfl) (q 7) (q 9)) rfl (c (OpJ.val (v' := .d (.bool true)) (by rw [hg27]) (mv hN (q 10))) rfl (c (OpJ.guarded (g := 11) (by rfl) (mv hN (q 0))) rfl (c (OpJ.guarded (g := 11) (by rfl) (mv hN (q 5))) rfl (c (OpJ.guarded (g := 11) (by rfl) (OpJ.indexD Try.underlying27 tyS23 (idx_some hx28).1 (get_map e_api_Cell (idx_some hx28).2) (L rfl) (q 12) (q 13))) rfl (c (OpJ.guarded (g := 11) (by rfl) (OpJ.loadD tyS23 (by rfl) (by rfl) (L rfl) (q 14))) rfl (c (OpJ.guarded (g := 11) (by rfl) (lb hN 23 _ _ tyS23 (At.here _) (q 3))) rfl (cg (OpJ.guarded (g := 11) (by rfl) (OpJ.callFn hB fnOk40 (exchangepointref38_less_ac x28 a1 r29 hr29) [] (by kernel_rfl) (L rfl) (by kernel_rfl) (OpdL.cons (q 15) (OpdL.cons (q 16) OpdL.nil)))) rfl (c (OpJ.pickT (L rfl) (q 11) (q 17)) rfl cn)))))))))))) (by kernel_rfl) (by kernel_rfl) ?_
        exact hjj25 _ h _ _ (Mat.trans (mp [] [(0, (qe_api_Cell_4 a0)), (3, (.ptr 1003 0 [])), (5, (i6 s1)), (18, (bo r29))] [(1003, some (.box 23 (.d (e_api_Cell a1))))] hB) (mp [] _ _ hB))
      · replace h := ite_f hg27 h
        refine dr (c (mv hN (q 5)) rfl (c (mv hN (q 0)) rfl (c (OpJ.val (v' := (i6 (a0.length : Int))) (by simp) (OpJ.lenD Try.underlying27 (L rfl) (q 8))) rfl (c (OpJ.lss (L rfl) (q 7) (q 9)) rfl (c (OpJ.val (v' := .d (.bool false)) (by rw [hg27]) (mv hN (q 10))) rfl (cg (OpJ.skipU (g := 11) (L rfl) (by rfl)) rfl (cg (OpJ.skipU (g := 11) (L rfl) (by rfl)) rfl (cg (OpJ.skipU (g := 11) (L rfl) (by rfl)) rfl (cg (OpJ.skipU (g := 11) (L rfl) (by rfl)) rfl (cg (OpJ.skipU (g := 11) (L rfl) (by rfl)) rfl (cg (OpJ.skipU (g := 11) (L rfl) (by rfl)) rfl (c (OpJ.pickF (L rfl) (q 11) (Opd.bool false)) rfl cn)))))))))))) (by kernel_rfl) (by kernel_rfl) ?_
        exact hjj25 _ h _ _ (Mat.trans (mp [] [(0, (qe_api_Cell_4 a0)), (3, (.ptr 1003 0 [])), (5, (i6 s1)), (18, (bo false))] [(1003, some (.box 23 (.d (e_api_Cell a1))))] hB) (mp [] _ _ hB))
  · obtain ⟨rfl, hmat⟩ := hR
    refine blkQ_hit ?_
    refine seqQ_n ?_
    refine AWp.ghost hmat ?_
    obtain ⟨hc32, h⟩ := chk_some h
    obtain ⟨hc33, h⟩ := chk_some h
    refine sr (c (mv hN (q 0)) rfl (c (mv hN (q 5)) rfl (c (OpJ.cutD Try.underlying27 tyS23 (es' := ((a0.take p20.toNat).drop 0).map e_api_Cell) (l := 0) (h := p20.toNat) (.inl ⟨rfl, rfl, rfl⟩) (.inr ⟨_, _, _, rfl, (ot 22 (i6 p20)), (of_decide_eq_true (and_l2 (and_l2 hc32))), rfl⟩) (of_decide_eq_true (and_r2 (and_l2 hc32))) (by first | (simp; done) | simpa using (of_decide_eq_true (and_r2 hc32))) (by first | rw [List.map_drop, List.map_take] | simp [List.map_take, List.map_drop]) (L rfl) (q 21)) rfl (cg (OpJ.appendN hB Try.underlying27 tyE23 (nm := 1024) (by decide) (ys := ((a0.take p20.toNat).drop 0).map e_api_Cell) (len := ((a0.take p20.toNat).drop 0).length) (by simp) (map_sz (f := e_api_Cell) (fun _ => rfl)) (by rw [List.length_map]; exact lim_mulN hc33 (by decide)) (by rw [List.length_map]; exact lim_leN hc33) (L rfl) Opd.nils (q 23)) rfl (c (OpJ.assign (L rfl) (q 24)) rfl cn))))) ?_
    refine gh [(0, _), (3, _), (5, _), (6, _)] [(1003, some _), (1024, some _)] hB rfl rfl (by rfl) ?_
    refine AWp.seq ?_
    refine AWp.seq ?_
    refine AWp.cut h (fun m37 : Bool => ([(0, (qe_api_Cell_4 a0)), (3, (.ptr 1003 0 [])), (5, (i6 p20)), (6, (.sref 1024 4 0 (((a0.take p20.toNat).drop 0).length))), (37, (bo m37))] : EL)) (fun m37 : Bool => ([(1003, some (.box 23 (.d (e_api_Cell a1)))), (1024, some (we_api_Cell_23_4 ((a0.take p20.toNat).drop 0)))] : OL)) (fun m37 h E' O' hmat => ?_) (fun j38 hjj38 h => ?_)
    · refine seqQ_n ?_
      refine AWp.ghost hmat ?_
      refine AWp.cond rfl (fun hg39 => ?_) (fun hg39 => ?_)
      · replace h := ite_t hg39 h
        obtain ⟨x40, hx40, h⟩ := bindS h
        refine sd (c (ov (.ptr 1003 2 [2]) (fp hN Try.underlying23 2 tyS3 _ (q 3))) rfl (c (lb hN 23 _ _ tyS3 (ad _) (q 38)) rfl (c (mv hN (q 0)) rfl (c (mv hN (q 5)) rfl (c (OpJ.indexD Try.underlying27 tyS23 (idx_some hx40).1 (get_map e_api_Cell (idx_some hx40).2) (L rfl) (q 40) (q 41)) rfl (c (OpJ.fieldD Try.underlying23 (by rfl) (o := 2) (by rfl) tyS3 (by decide) (by rfl) (by rfl) (L rfl) (q 42)) rfl (c (OpJ.loadD tyS3 (by rfl) (by rfl) (L rfl) (q 43)) rfl (c (add6 (L rfl) (q 39) (q 44)) rfl (c (ov (.ptr 1003 2 [2]) (fp hN Try.underlying23 2 tyS3 _ (q 3))) rfl (cg (OpJ.storeB tyS3 (SetAt.dst1 (by rfl) (by rfl) (SetAt.here _ _) (by rfl) (by rfl) (by first | rfl | omega)) (by rfl) (by rfl) (by simp) rfl (q 46) (q 45)) rfl cn)))))))))) (by kernel_rfl) (by kernel_rfl) ?_
        refine gh [(0, _), (3, _), (5, _), (6, _)] [(1003, some _), (1024, some _)] hB rfl rfl (by rfl) ?_
        obtain ⟨x41, hx41, h⟩ := bindS h
        refine sd (c (ov (.ptr 1003 3 [3]) (fp hN Try.underlying23 3 tyS3 _ (q 3))) rfl (c (lb hN 23 _ _ tyS3 (ad _) (q 47)) rfl (c (mv hN (q 0)) rfl (c (mv hN (q 5)) rfl (c (OpJ.indexD Try.underlying27 tyS23 (idx_some hx41).1 (get_map e_api_Cell (idx_some hx41).2) (L rfl) (q 49) (q 50)) rfl (c (OpJ.fieldD Try.underlying23 (by rfl) (o := 3) (by rfl) tyS3 (by decide) (by rfl) (by rfl) (L rfl) (q 51)) rfl (c (OpJ.loadD tyS3 (by rfl) (by rfl) (L rfl) (q 52)) rfl (c (add6 (L rfl) (q 48) (q 53)) rfl (c (ov (.ptr 1003 3 [3]) (fp hN Try.underlying23 3 tyS3 _ (q 3))) rfl (cg (OpJ.storeB tyS3 (SetAt.dst1 (by rfl) (by rfl) (SetAt.here _ _) (by rfl) (by rfl) (by first | rfl | omega)) (by rfl) (by rfl) (by simp) rfl (q 55) (q 54)) rfl cn)))))))))) (by kernel_rfl) (by kernel_rfl) ?_
        refine gh [(0, _), (3, _), (5, _), (6, _)] [(1003, some _), (1024, some _)] hB rfl rfl (by rfl) ?_
        refine sr (c (mv hN (q 5)) rfl (c (add6 (L rfl) (q 56) (Opd.int .i64 (1))) rfl (c (OpJ.assign (L rfl) (q 57)) rfl cn))) ?_
        refine gh [(0, _), (3, _), (5, _), (6, _)] [(1003, some _), (1024, some _)] hB rfl rfl (by rfl) ?_
        obtain ⟨hc42, h⟩ := chk_some h
        obtain ⟨hc43, h⟩ := chk_some h
        obtain ⟨hc44, h⟩ := chk_some h
        refine sd (c (mv hN (q 6)) rfl (c (lb hN 23 _ _ tyS23 (At.here _) (q 3)) rfl (c (OpJ.buildSlice Try.underlying27 tyS23 tyZD23 (by rfl) (by decide) (by decide) (Opds.cons (q 59) Opds.nil) (by kernel_rfl) (es := ([(.st [(.int .i64 a1.fFrom), (.int .i64 a1.fTo), (.int .i64 (w64 (a1.fSamples + x40.fSamples))), (.int .i64 (w64 (a1.fBytes + x41.fBytes)))])] : List D)) (by rfl) (by rfl) (by kernel_rfl) (by simp) (L rfl)) rfl (cg (OpJ.append hB Try.underlying27 tyE23 (nm := 1061) (by decide) (es := ((a0.take p20.toNat).drop 0).map e_api_Cell) (ys := ([(api_Cell.mk a1.fFrom a1.fTo (w64 (a1.fSamples + x40.fSamples)) (w64 (a1.fBytes + x41.fBytes)))] : List api_Cell).map e_api_Cell) (es' := (((a0.take p20.toNat).drop 0) ++ ([(api_Cell.mk a1.fFrom a1.fTo (w64 (a1.fSamples + x40.fSamples)) (w64 (a1.fBytes + x41.fBytes)))] : List api_Cell)).map e_api_Cell) (len := (((a0.take p20.toNat).drop 0) ++ ([(api_Cell.mk a1.fFrom a1.fTo (w64 (a1.fSamples + x40.fSamples)) (w64 (a1.fBytes + x41.fBytes)))] : List api_Cell)).length) (by simp) (by simp) (map_sz (f := e_api_Cell) (fun _ => rfl)) (by rw [List.length_map]; exact lim_mulN hc42 (by decide)) (by rw [List.length_map]; exact lim_leN hc42) (L rfl) (by simp) (q 58) (q 60)) rfl (c (mv hN (q 0)) rfl (c (mv hN (q 5)) rfl (c (OpJ.cutD Try.underlying27 tyS23 (es' := ((a0.take a0.length).drop ((w64 (p20 + (1 : Int))).toNat)).map e_api_Cell) (l := (w64 (p20 + (1 : Int))).toNat) (h := a0.length) (.inr ⟨_, _, _, rfl, (ot 63 (i6 (w64 (p20 + (1 : Int))))), (of_decide_eq_true (and_l2 (and_l2 hc43))), rfl⟩) (.inl ⟨rfl, by simp, rfl⟩) (of_decide_eq_true (and_r2 (and_l2 hc43))) (by first | (simp; done) | simpa using (of_decide_eq_true (and_r2 hc43))) (by first | rw [List.map_drop, List.map_take] | simp [List.map_take, List.map_drop]) (L rfl) (q 62)) rfl (cg (OpJ.append hB Try.underlying27 tyE23 (nm := 1065) (by decide) (es := (((a0.take p20.toNat).drop 0) ++ ([(api_Cell.mk a1.fFrom a1.fTo (w64 (a1.fSamples + x40.fSamples)) (w64 (a1.fBytes + x41.fBytes)))] : List api_Cell)).map e_api_Cell) (ys := ((a0.take a0.length).drop ((w64 (p20 + (1 : Int))).toNat)).map e_api_Cell) (es' := ((((a0.take p20.toNat).drop 0) ++ ([(api_Cell.mk a1.fFrom a1.fTo (w64 (a1.fSamples + x40.fSamples)) (w64 (a1.fBytes + x41.fBytes)))] : List api_Cell)) ++ ((a0.take a0.length).drop ((w64 (p20 + (1 : Int))).toNat))).map e_api_Cell) (len := ((((a0.take p20.toNat).drop 0) ++ ([(api_Cell.mk a1.fFrom a1.fTo (w64 (a1.fSamples + x40.fSamples)) (w64 (a1.fBytes + x41.fBytes)))] : List api_Cell)) ++ ((a0.take a0.length).drop ((w64 (p20 + (1 : Int))).toNat))).length) (by simp) (by simp) (map_sz (f := e_api_Cell) (fun _ => rfl)) (by rw [List.length_map]; exact lim_mulN hc44 (by decide)) (by rw [List.length_map]; exact lim_leN hc44) (L rfl) (by simp) (q 61) (q 64)) rfl (c (OpJ.assign (L rfl) (q 65)) rfl cn))))))))) (by kernel_rfl) (by kernel_rfl) ?_
        refine gh [(4, _)] [(1065, some _)] hB rfl rfl (by rfl) ?_
        refine AWp.ret ?_
        refine seqQ_r ?_
        obtain rfl := Option.some.inj h
        exact ⟨.inl rfl, _, _, (Mat.trans (Mat.freezeP (n := 1065) (e := 23) (sz := 4) (es := ((((a0.take p20.toNat).drop 0) ++ ([(api_Cell.mk a1.fFrom a1.fTo (w64 (a1.fSamples + x40.fSamples)) (w64 (a1.fBytes + x41.fBytes)))] : List api_Cell)) ++ ((a0.take a0.length).drop ((w64 (p20 + (1 : Int))).toNat))).map e_api_Cell) (Ts := [(4, (qe_api_Cell_4 ((((a0.take p20.toNat).drop 0) ++ ([(api_Cell.mk a1.fFrom a1.fTo (w64 (a1.fSamples + x40.fSamples)) (w64 (a1.fBytes + x41.fBytes)))] : List api_Cell)) ++ ((a0.take a0.length).drop ((w64 (p20 + (1 : Int))).toNat)))))]) (Bs := []) (by rfl) (TwT.cons (x := (.sref 1065 4 0 (((((a0.take p20.toNat).drop 0) ++ ([(api_Cell.mk a1.fFrom a1.fTo (w64 (a1.fSamples + x40.fSamples)) (w64 (a1.fBytes + x41.fBytes)))] : List api_Cell)) ++ ((a0.take a0.length).drop ((w64 (p20 + (1 : Int))).toNat))).length))) (by rfl) (FrzL.all (by first | rfl | (simp; done) | (simp; omega))) TwT.nil) TwB.nil) (mp [] [(4, (qe_api_Cell_4 ((((a0.take p20.toNat).drop 0) ++ ([(api_Cell.mk a1.fFrom a1.fTo (w64 (a1.fSamples + x40.fSamples)) (w64 (a1.fBytes + x41.fBytes)))] : List api_Cell)) ++ ((a0.take a0.length).drop ((w64 (p20 + (1 : Int))).toNat)))))] [] hB)), [(qe_api_Cell_4 ((((a0.take p20.toNat).drop 0) ++ ([(api_Cell.mk a1.fFrom a1.fTo (w64 (a1.fSamples + x40.fSamples)) (w64 (a1.fBytes + x41.fBytes)))] : List api_Cell)) ++ ((a0.take a0.length).drop ((w64 (p20 + (1 : Int))).toNat))))], (Res.tmp (by rfl) (by rfl) Res.nil), rfl, by rfl, by rfl, by rfl⟩
      · replace h := ite_f hg39 h
        refine AWp.skip ?_
        refine seqQ_n ?_
        obtain ⟨hc45, h⟩ := chk_some h
        obtain ⟨hc46, h⟩ := chk_some h
        obtain ⟨hc47, h⟩ := chk_some h
        refine sd (c (mv hN (q 6)) rfl (c (lb hN 23 _ _ tyS23 (At.here _) (q 3)) rfl (c (OpJ.buildSlice Try.underlying27 tyS23 tyZD23 (by rfl) (by decide) (by decide) (Opds.cons (q 67) Opds.nil) (by kernel_rfl) (es := ([(e_api_Cell a1)] : List D)) (by rfl) (by rfl) (by kernel_rfl) (by simp) (L rfl)) rfl (cg (OpJ.append hB Try.underlying27 tyE23 (nm := 1069) (by decide) (es := ((a0.take p20.toNat).drop 0).map e_api_Cell) (ys := ([a1] : List api_Cell).map e_api_Cell) (es' := (((a0.take p20.toNat).drop 0) ++ ([a1] : List api_Cell)).map e_api_Cell) (len := (((a0.take p20.toNat).drop 0) ++ ([a1] : List api_Cell)).length) (by simp) (by simp) (map_sz (f := e_api_Cell) (fun _ => rfl)) (by rw [List.length_map]; exact lim_mulN hc45 (by decide)) (by rw [List.length_map]; exact lim_leN hc45) (L rfl) (by simp) (q 66) (q 68)) rfl (c (mv hN (q 0)) rfl (c (mv hN (q 5)) rfl (c (OpJ.cutD Try.underlying27 tyS23 (es' := ((a0.take a0.length).drop p20.toNat).map e_api_Cell) (l := p20.toNat) (h := a0.length) (.inr ⟨_, _, _, rfl, (ot 71 (i6 p20)), (of_decide_eq_true (and_l2 (and_l2 hc46))), rfl⟩) (.inl ⟨rfl, by simp, rfl⟩) (of_decide_eq_true (and_r2 (and_l2 hc46))) (by first | (simp; done) | simpa using (of_decide_eq_true (and_r2 hc46))) (by first | rw [List.map_drop, List.map_take] | simp [List.map_take, List.map_drop]) (L rfl) (q 70)) rfl (cg (OpJ.append hB Try.underlying27 tyE23 (nm := 1073) (by decide) (es := (((a0.take p20.toNat).drop 0) ++ ([a1] : List api_Cell)).map e_api_Cell) (ys := ((a0.take a0.length).drop p20.toNat).map e_api_Cell) (es' := ((((a0.take p20.toNat).drop 0) ++ ([a1] : List api_Cell)) ++ ((a0.take a0.length).drop p20.toNat)).map e_api_Cell) (len := ((((a0.take p20.toNat).drop 0) ++ ([a1] : List api_Cell)) ++ ((a0.take a0.length).drop p20.toNat)).length) (by simp) (by simp) (map_sz (f := e_api_Cell) (fun _ => rfl)) (by rw [List.length_map]; exact lim_mulN hc47 (by decide)) (by rw [List.length_map]; exact lim_leN hc47) (L rfl) (by simp) (q 69) (q 72)) rfl (c (OpJ.assign (L rfl) (q 73)) rfl cn))))))))) (by kernel_rfl) (by kernel_rfl) ?_
        refine gh [(4, _)] [(1073, some _)] hB rfl rfl (by rfl) ?_
        refine AWp.ret ?_
        obtain rfl := Option.some.inj h
        exact ⟨.inl rfl, _, _, (Mat.trans (Mat.freezeP (n := 1073) (e := 23) (sz := 4) (es := ((((a0.take p20.toNat).drop 0) ++ ([a1] : List api_Cell)) ++ ((a0.take a0.length).drop p20.toNat)).map e_api_Cell) (Ts := [(4, (qe_api_Cell_4 ((((a0.take p20.toNat).drop 0) ++ ([a1] : List api_Cell)) ++ ((a0.take a0.length).drop p20.toNat))))]) (Bs := []) (by rfl) (TwT.cons (x := (.sref 1073 4 0 (((((a0.take p20.toNat).drop 0) ++ ([a1] : List api_Cell)) ++ ((a0.take a0.length).drop p20.toNat)).length))) (by rfl) (FrzL.all (by first | rfl | (simp; done) | (simp; omega))) TwT.nil) TwB.nil) (mp [] [(4, (qe_api_Cell_4 ((((a0.take p20.toNat).drop 0) ++ ([a1] : List api_Cell)) ++ ((a0.take a0.length).drop p20.toNat))))] [] hB)), [(qe_api_Cell_4 ((((a0.take p20.toNat).drop 0) ++ ([a1] : List api_Cell)) ++ ((a0.take a0.length).drop p20.toNat)))], (Res.tmp (by rfl) (by rfl) Res.nil), rfl, by rfl, by rfl, by rfl⟩
    · rcases Bool.eq_false_or_eq_true (decide (p20 < (a0.length : Int))) with hg48 | hg48
      · replace h := ite_t hg48 h
        obtain ⟨x49, hx49, h⟩ := bindS h
        obtain ⟨r50, hr50, h⟩ := bindS h
        refine dr (c (mv hN (q 5)) rfl (c (mv hN (q 0)) rfl (c (OpJ.val (v' := (i6 (a0.length : Int))) (by simp) (OpJ.lenD Try.underlying27 (L rfl) (q 26))) rfl (c (OpJ.lss (L rfl) (q 25) (q 27)) rfl (c (OpJ.val (v' := .d (.bool true)) (by rw [hg48]) (mv hN (q 28))) rfl (c (OpJ.guarded (g := 29) (by rfl) (lb hN 23 _ _ tyS23 (At.here _) (q 3))) rfl (c (OpJ.guarded (g := 29) (by rfl) (mv hN (q 0))) rfl (c (OpJ.guarded (g := 29) (by rfl) (mv hN (q 5))) rfl (c (OpJ.guarded (g := 29) (by rfl) (OpJ.indexD Try.underlying27 tyS23 (idx_some hx49).1 (get_map e_api_Cell (idx_some hx49).2) (L rfl) (q 31) (q 32))) rfl (c (OpJ.guarded (g := 29) (by rfl) (OpJ.loadD tyS23 (by rfl) (by rfl) (L rfl) (q 33))) rfl (cg (OpJ.guarded (g := 29) (by rfl) (OpJ.callFn hB fnOk40 (exchangepointref38_less_ac a1 x49 r50 hr50) [] (by kernel_rfl) (L rfl) (by kernel_rfl) (OpdL.cons (q 30) (OpdL.cons (q 34) OpdL.nil)))) rfl (c (OpJ.guarded (g := 29) (by rfl) (OpJ.not (L rfl) (q 35))) rfl (c (OpJ.pickT (L rfl) (q 29) (q 36)) rfl cn))))))))))))) (by kernel_rfl) (by kernel_rfl) ?_
        exact hjj38 _ h _ _ (Mat.trans (mp [] [(0, (qe_api_Cell_4 a0)), (3, (.ptr 1003 0 [])), (5, (i6 p20)), (6, (.sref 1024 4 0 (((a0.take p20.toNat).drop 0).length))), (37, (bo (!r50)))] [(1003, some (.box 23 (.d (e_api_Cell a1)))), (1024, some (we_api_Cell_23_4 ((a0.take p20.toNat).drop 0)))] hB) (mp [] _ _ hB))
      · replace h := ite_f hg48 h
        refine dr (c (mv hN (q 5)) rfl (c (mv hN (q 0)) rfl (c (OpJ.val (v' := (i6 (a0.length : Int))) (by simp) (OpJ.lenD Try.underlying27 (L rfl) (q 26))) rfl (c (OpJ.lss (L rfl) (q 25) (q 27)) rfl (c (OpJ.val (v' := .d (.bool false)) (by rw [hg48]) (mv hN (q 28))) rfl (cg (OpJ.skipU (g := 29) (L rfl) (by rfl)) rfl (cg (OpJ.skipU (g := 29) (L rfl) (by rfl)) rfl (cg (OpJ.skipU (g := 29) (L rfl) (by rfl)) rfl (cg (OpJ.skipU (g := 29) (L rfl) (by rfl)) rfl (cg (OpJ.skipU (g := 29) (L rfl) (by rfl)) rfl (cg (OpJ.skipU (g := 29) (L rfl) (by rfl)) rfl (cg (OpJ.skipU (g := 29) (L rfl) (by rfl)) rfl (c (OpJ.pickF (L rfl) (q 29) (Opd.bool false)) rfl cn))))))))))))) (by kernel_rfl) (by kernel_rfl) ?_
        exact hjj38 _ h _ _ (Mat.trans (mp [] [(0, (qe_api_Cell_4 a0)), (3, (.ptr 1003 0 [])), (5, (i6 p20)), (6, (.sref 1024 4 0 (((a0.take p20.toNat).drop 0).length))), (37, (bo false))] [(1003, some (.box 23 (.d (e_api_Cell a1)))), (1024, some (we_api_Cell_23_4 ((a0.take p20.toNat).drop 0)))] hB) (mp [] _ _ hB))

noncomputable def exchangepointref38_Cells_L0 (a0 : (List api_Sample)) (a1 : (List api_Rule)) (s3 : Int × Int) : Option (((Unit) ⊕ (Int)) ⊕ (Int × Int)) :=
  (if (decide (s3.2 < (a0.length : Int))) = true then
  (idx a0 s3.2).bind fun x43 =>
  (exchangepointref38_owner a1 x43.fIn).bind fun r44 =>
  (exchangepointref38_owner a1 x43.fOut).bind fun r45 =>
  (if ((!r44.2) || (!r45.2)) = true then
  some (.inl (.inl ()))
  else
  jn (fun m51 : Bool =>
  jn (fun m54 : Int =>
  some (.inr (m54, (w64 (s3.2 + (1 : Int)))))) (fun j55 =>
  (if m51 = true then
  j55 (1 : Int)
  else
  j55 s3.1))) (fun j52 =>
  (exchangepointref38_asn r44.1).bind fun r57 =>
  (if (!r57) = true then
  j52 true
  else
  (exchangepointref38_asn r45.1).bind fun r59 =>
  j52 (!r59))))
  else
  some (.inl (.inr s3.1)))
noncomputable def exchangepointref38_Cells_L1 (a0 : (List api_Sample)) (a1 : (List api_Rule)) (s63 : (List api_Cell) × Int) : Option ((((List api_Cell))) ⊕ ((List api_Cell) × Int)) :=
  (if (decide (s63.2 < (a0.length : Int))) = true then
  (idx a0 s63.2).bind fun x76 =>
  (exchangepointref38_owner a1 x76.fIn).bind fun r77 =>
  (exchangepointref38_owner a1 x76.fOut).bind fun r78 =>
  (exchangepointref38_put s63.1 (api_Cell.mk r77.1 r78.1 (1 : Int) x76.fBytes)).bind fun r79 =>
  some (.inr (r79, (w64 (s63.2 + (1 : Int)))))
  else
  some (.inl s63.1))
noncomputable def exchangepointref38_Cells (a0 : (List api_Sample)) (a1 : (List api_Rule)) : Option ((List api_Cell) × Int) :=
  (exchangepointref37_Valid a0).bind fun r1 =>
  (if (!r1) = true then
  some (([] : List api_Cell), (1 : Int))
  else
  (loop (exchangepointref38_Cells_L0 a0 a1) ((0 : Int), (0 : Int))).bind fun x60 => match x60 with
  | (.inl _) =>
    some (([] : List api_Cell), (7 : Int))
  | (.inr p41) =>
    (if (p41 != (0 : Int)) = true then
    some (([] : List api_Cell), p41)
    else
    (loop (exchangepointref38_Cells_L1 a0 a1) (([] : List api_Cell), (0 : Int))).bind fun p74 =>
    (if (decide ((1024 : Int) < (p74.length : Int))) = true then
    some (([] : List api_Cell), (3 : Int))
    else
    some (p74, (0 : Int)))))
set_option maxHeartbeats 4000000 in
set_option maxRecDepth 100000 in
theorem exchangepointref38_Cells_ac (a0 : (List api_Sample)) (a1 : (List api_Rule)) (r : (List api_Cell) × Int) (h : exchangepointref38_Cells a0 a1 = some r) : AC Try.prog 13 [(.d (.list 6 (a0.map e_api_Sample))), (.d (.list 8 (a1.map e_api_Rule)))] [] (.tup [(.d (.list 4 (r.1.map e_api_Cell))), (.d (.int .i64 r.2))]) [] := by
  refine AC.of_code2 Try.func13 rfl rfl (Nat.le_of_ble_eq_true (by rfl)) fun B hB hN => ?_
  have L {d : Nat} (h : Nat.blt d Try.f13.ntmps = true) : d < B.N := ltN hN h
  delta exchangepointref38_Cells at h
  refine sr (c (OpJ.assign (L rfl) Opd.nils) rfl (c (OpJ.assign (L rfl) (Opd.int .i64 (0))) rfl cn)) ?_
  refine gh [(0, _), (1, _)] [] hB rfl rfl (by rfl) ?_
  refine AWp.seq ?_
  obtain ⟨r1, hr1, h⟩ := bindS h
  refine sr (c (mv hN (q 0)) rfl (cg (OpJ.callFn hB fnOk31 (exchangepointref37_Valid_ac a0 r1 hr1) [] (by kernel_rfl) (L rfl) (by kernel_rfl) (OpdL.cons (q 20) OpdL.nil)) rfl (c (OpJ.not (L rfl) (q 21)) rfl cn))) ?_
  refine gh [(0, _), (1, _), (22, _)] [] hB rfl rfl (by rfl) ?_
  refine AWp.cond rfl (fun hg2 => ?_) (fun hg2 => ?_)
  · replace h := ite_t hg2 h
    refine sr (c (OpJ.assign (L rfl) Opd.nils) rfl (c (OpJ.assign (L rfl) (Opd.int .i64 (1))) rfl cn)) ?_
    refine gh [(4, _), (5, _)] [] hB rfl rfl (by rfl) ?_
    refine AWp.ret ?_
    refine seqQ_r ?_
    obtain rfl := Option.some.inj h
    exact ⟨.inl rfl, _, _, (Mat.trans (Mat.coeP (Ts := [(4, (qe_api_Cell_4 ([] : List api_Cell)))]) (Bs := []) (TwT.cons (x := .nils) (by rfl) (Tw.leaf ⟨_, (Co.nils 4), rfl⟩) TwT.nil) TwB.nil) (mp [] [(4, (qe_api_Cell_4 ([] : List api_Cell))), (5, (i6 1))] [] hB)), [(qe_api_Cell_4 ([] : List api_Cell)), (i6 1)], (Res.tmp (by rfl) (by rfl) (Res.tmp (by rfl) (by rfl) Res.nil)), rfl, by rfl, by rfl, by rfl⟩
  · replace h := ite_f hg2 h
    refine AWp.skip ?_
    refine seqQ_n ?_
    refine sr (c (OpJ.assign (L rfl) (Opd.int .i64 (0))) rfl cn) ?_
    refine gh [(0, _), (1, _), (6, _)] [] hB rfl rfl (by rfl) ?_
    refine AWp.seq ?_
    refine sr (c (mv hN (q 0)) rfl (c (OpJ.val (v' := (i6 (a0.length : Int))) (by simp) (OpJ.lenD Try.underlying33 (L rfl) (q 23))) rfl (c (mv hN (Opd.int .i64 (0))) rfl cn))) ?_
    refine gh [(0, _), (1, _), (6, _), (23, _), (24, _), (25, _)] [] hB rfl rfl (by rfl) ?_
    refine AWp.block ?_
    obtain ⟨x60, hx61, h⟩ := bindS h
    refine lg (exchangepointref38_Cells_L0 a0 a1) (fun s3 : Int × Int => ([(0, (qe_api_Sample_6 a0)), (1, (qe_api_Rule_8 a1)), (6, (i6 s3.1)), (23, (qe_api_Sample_6 a0)), (24, (i6 (a0.length : Int))), (25, (i6 s3.2))] : EL)) (fun s3 : Int × Int => ([] : OL)) (fun (x : (Unit) ⊕ (Int)) e E' O' => match x with | (.inl _p) => e = .ret ∧ Mat B E' O' ([(4, .nils), (5, (i6 (7 : Int)))] : EL) ([] : OL) | (.inr p41) => e = .exit 0 ∧ Mat B E' O' ([(0, (qe_api_Sample_6 a0)), (1, (qe_api_Rule_8 a1)), (6, (i6 p41))] : EL) ([] : OL)) hx61 (mp [] _ _ hB) (fun s3 y h => ?_) (fun e E' O' hR => ?_)
    · unfold exchangepointref38_Cells_L0 at h
      refine sr (c (OpJ.lss (L rfl) (q 25) (q 24)) rfl cn) ?_
      refine gh [(0, _), (1, _), (6, _), (23, _), (24, _), (25, _), (26, _)] [] hB rfl rfl (by rfl) ?_
      refine AWp.seq ?_
      refine AWp.cond rfl (fun hg42 => ?_) (fun hg42 => ?_)
      · replace h := ite_t hg42 h
        refine AWp.skip ?_
        refine seqQ_n ?_
        refine AWp.seq ?_
        refine AWp.block ?_
        obtain ⟨x43, hx43, h⟩ := bindS h
        refine sr (c (OpJ.indexD Try.underlying33 tyS54 (idx_some hx43).1 (get_map e_api_Sample (idx_some hx43).2) (L rfl) (q 23) (q 25)) rfl (c (OpJ.loadD tyS54 (by rfl) (by rfl) (L rfl) (q 27)) rfl (cg (OpJ.alloc hB tyZ54 (nm := 1008) (by decide) (L rfl)) rfl (cg (OpJ.storeB tyS54 (SetAt.here _ _) (by rfl) (by rfl) (by simp) rfl (q 8) (q 28)) rfl cn)))) ?_
        refine gh [(0, _), (1, _), (6, _), (8, _), (23, _), (24, _), (25, _)] [(1008, some _)] hB rfl rfl (by rfl) ?_
        obtain ⟨r44, hr44, h⟩ := bindS h
        refine sr (c (mv hN (q 1)) rfl (c (ov (.ptr 1008 3 [3]) (fp hN Try.underlying54 3 tyS3 _ (q 8))) rfl (c (lb hN 54 _ _ tyS3 (ad _) (q 31)) rfl (cg (OpJ.callFn hB fnOk32 (exchangepointref38_owner_ac a1 x43.fIn r44 hr44) [] (by kernel_rfl) (L rfl) (by kernel_rfl) (OpdL.cons (q 30) (OpdL.cons (q 32) OpdL.nil))) rfl (c (mv hN (q 33)) rfl (c (OpJ.extract (by rfl) rfl (L rfl) (q 29)) rfl (c (OpJ.extract (by rfl) rfl (L rfl) (q 29)) rfl (c (OpJ.assign (L rfl) (q 34)) rfl (c (OpJ.assign (L rfl) (q 35)) rfl cn))))))))) ?_
        refine gh [(0, _), (1, _), (6, _), (8, _), (9, _), (10, _), (23, _), (24, _), (25, _)] [(1008, some _)] hB rfl rfl (by rfl) ?_
        obtain ⟨r45, hr45, h⟩ := bindS h
        refine sr (c (mv hN (q 1)) rfl (c (ov (.ptr 1008 4 [4]) (fp hN Try.underlying54 4 tyS3 _ (q 8))) rfl (c (lb hN 54 _ _ tyS3 (ad _) (q 38)) rfl (cg (OpJ.callFn hB fnOk32 (exchangepointref38_owner_ac a1 x43.fOut r45 hr45) [] (by kernel_rfl) (L rfl) (by kernel_rfl) (OpdL.cons (q 37) (OpdL.cons (q 39) OpdL.nil))) rfl (c (mv hN (q 40)) rfl (c (OpJ.extract (by rfl) rfl (L rfl) (q 36)) rfl (c (OpJ.extract (by rfl) rfl (L rfl) (q 36)) rfl (c (OpJ.assign (L rfl) (q 41)) rfl (c (OpJ.assign (L rfl) (q 42)) rfl cn))))))))) ?_
        refine gh [(0, _), (1, _), (6, _), (9, _), (10, _), (11, _), (12, _), (23, _), (24, _), (25, _)] [] hB rfl rfl (by rfl) ?_
        refine AWp.seq ?_
        refine sr (c (mv hN (q 10)) rfl (c (OpJ.not (L rfl) (q 43)) rfl (c (mv hN (q 44)) rfl (c (oq hN 45 (mv hN (q 12)) (OptL.keep (by rfl) OptL.nil) (GuardV.plain _)) rfl (c (oq hN 45 (OpJ.not (L rfl) (q 46)) (OptL.opt OptL.nil) (GuardV.plain _)) rfl (c (OpJ.pickOr rfl (L rfl) (q 45) (q 47)) rfl cn)))))) ?_
        refine gh [(0, _), (1, _), (6, _), (9, _), (11, _), (23, _), (24, _), (25, _), (48, _)] [] hB rfl rfl (by rfl) ?_
        refine AWp.cond rfl (fun hg46 => ?_) (fun hg46 => ?_)
        · replace h := ite_t hg46 h
          refine sr (c (OpJ.assign (L rfl) Opd.nils) rfl (c (OpJ.assign (L rfl) (Opd.int .i64 (7))) rfl cn)) ?_
          refine gh [(4, _), (5, _)] [] hB rfl rfl (by rfl) ?_
          refine AWp.ret ?_
          refine seqQ_r ?_
          refine blkQ_r ?_
          refine seqQ_r ?_
          obtain rfl := Option.some.inj h
          exact ⟨(fun hc => by cases hc), rfl, (mp [] _ _ hB)⟩
        · replace h := ite_f hg46 h
          refine AWp.skip ?_
          refine seqQ_n ?_
          refine AWp.seq ?_
          refine AWp.cut h (fun m51 : Bool => ([(0, (qe_api_Sample_6 a0)), (1, (qe_api_Rule_8 a1)), (6, (i6 s3.1)), (23, (qe_api_Sample_6 a0)), (24, (i6 (a0.length : Int))), (25, (i6 s3.2)), (56, (bo m51))] : EL)) (fun m51 : Bool => ([] : OL)) (fun m51 h E' O' hmat => ?_) (fun j52 hjj52 h => ?_)
          · refine seqQ_n ?_
            refine AWp.ghost hmat ?_
            refine AWp.cut h (fun m54 : Int => ([(0, (qe_api_Sample_6 a0)), (1, (qe_api_Rule_8 a1)), (6, (i6 m54)), (23, (qe_api_Sample_6 a0)), (24, (i6 (a0.length : Int))), (25, (i6 s3.2))] : EL)) (fun m54 : Int => ([] : OL)) (fun m54 h E' O' hmat => ?_) (fun j55 hjj55 h => ?_)
            · refine blkQ_n ?_
              refine seqQ_n ?_
              refine AWp.ghost hmat ?_
              refine rg (c (add6 (L rfl) (q 25) (Opd.int .i64 (1))) rfl (c (mv hN (q 57)) rfl cn)) ?_
              obtain rfl := Option.some.inj h
              exact ⟨rfl, (Mat.trans (mp [] [(0, (qe_api_Sample_6 a0)), (1, (qe_api_Rule_8 a1)), (6, (i6 m54)), (23, (qe_api_Sample_6 a0)), (24, (i6 (a0.length : Int))), (25, (i6 (w64 (s3.2 + (1 : Int)))))] [] hB) (mp [] _ _ hB))⟩
            · refine AWp.cond rfl (fun hg56 => ?_) (fun hg56 => ?_)
              · replace h := ite_t hg56 h
                refine rg (c (OpJ.assign (L rfl) (Opd.int .i64 (1))) rfl cn) ?_
                exact hjj55 _ h _ _ (Mat.trans (mp [] [(0, (qe_api_Sample_6 a0)), (1, (qe_api_Rule_8 a1)), (6, (i6 1)), (23, (qe_api_Sample_6 a0)), (24, (i6 (a0.length : Int))), (25, (i6 s3.2))] [] hB) (mp [] _ _ hB))
              · replace h := ite_f hg56 h
                refine AWp.skip ?_
                exact hjj55 _ h _ _ (mp [] _ _ hB)
          · obtain ⟨r57, hr57, h⟩ := bindS h
            rcases Bool.eq_false_or_eq_true (!r57) with hg58 | hg58
            · replace h := ite_t hg58 h
              refine rg (c (mv hN (q 9)) rfl (cg (OpJ.callFn hB fnOk33 (exchangepointref38_asn_ac r44.1 r57 hr57) [] (by kernel_rfl) (L rfl) (by kernel_rfl) (OpdL.cons (q 49) OpdL.nil)) rfl (c (OpJ.not (L rfl) (q 50)) rfl (c (OpJ.val (v' := .d (.bool true)) (by rw [hg58]) (mv hN (q 51))) rfl (cg (OpJ.skipU (g := 52) (L rfl) (by rfl)) rfl (cg (OpJ.skipU (g := 52) (L rfl) (by rfl)) rfl (cg (OpJ.skipU (g := 52) (L rfl) (by rfl)) rfl (c (OpJ.pickT (L rfl) (q 52) (Opd.bool true)) rfl cn)))))))) ?_
              exact hjj52 _ h _ _ (Mat.trans (mp [] [(0, (qe_api_Sample_6 a0)), (1, (qe_api_Rule_8 a1)), (6, (i6 s3.1)), (23, (qe_api_Sample_6 a0)), (24, (i6 (a0.length : Int))), (25, (i6 s3.2)), (56, (bo true))] [] hB) (mp [] _ _ hB))
            · replace h := ite_f hg58 h
              obtain ⟨r59, hr59, h⟩ := bindS h
              refine rg (c (mv hN (q 9)) rfl (cg (OpJ.callFn hB fnOk33 (exchangepointref38_asn_ac r44.1 r57 hr57) [] (by kernel_rfl) (L rfl) (by kernel_rfl) (OpdL.cons (q 49) OpdL.nil)) rfl (c (OpJ.not (L rfl) (q 50)) rfl (c (OpJ.val (v' := .d (.bool false)) (by rw [hg58]) (mv hN (q 51))) rfl (c (OpJ.guarded (g := 52) (by rfl) (mv hN (q 11))) rfl (cg (OpJ.guarded (g := 52) (by rfl) (OpJ.callFn hB fnOk33 (exchangepointref38_asn_ac r45.1 r59 hr59) [] (by kernel_rfl) (L rfl) (by kernel_rfl) (OpdL.cons (q 53) OpdL.nil))) rfl (c (OpJ.guarded (g := 52) (by rfl) (OpJ.not (L rfl) (q 54))) rfl (c (OpJ.pickF (L rfl) (q 52) (q 55)) rfl cn)))))))) ?_
              exact hjj52 _ h _ _ (Mat.trans (mp [] [(0, (qe_api_Sample_6 a0)), (1, (qe_api_Rule_8 a1)), (6, (i6 s3.1)), (23, (qe_api_Sample_6 a0)), (24, (i6 (a0.length : Int))), (25, (i6 s3.2)), (56, (bo (!r59)))] [] hB) (mp [] _ _ hB))
      · replace h := ite_f hg42 h
        refine AWp.exit ?_
        refine seqQ_e ?_
        obtain rfl := Option.some.inj h
        exact ⟨(fun hc => by cases hc), rfl, (mp [] _ _ hB)⟩
    · rcases x60 with _ | p41
      · obtain ⟨rfl, hmat⟩ := hR
        refine blkQ_r ?_
        refine seqQ_r ?_
        obtain rfl := Option.some.inj h
        exact ⟨.inl rfl, _, _, (Mat.trans hmat (Mat.trans (Mat.coeP (Ts := [(4, (qe_api_Cell_4 ([] : List api_Cell)))]) (Bs := []) (TwT.cons (x := .nils) (by rfl) (Tw.leaf ⟨_, (Co.nils 4), rfl⟩) TwT.nil) TwB.nil) (mp [] [(4, (qe_api_Cell_4 ([] : List api_Cell))), (5, (i6 (7 : Int)))] [] hB))), [(qe_api_Cell_4 ([] : List api_Cell)), (i6 (7 : Int))], (Res.tmp (by rfl) (by rfl) (Res.tmp (by rfl) (by rfl) Res.nil)), rfl, by rfl, by rfl, by rfl⟩
      · obtain ⟨rfl, hmat⟩ := hR
        refine blkQ_hit ?_
        refine seqQ_n ?_
        refine AWp.ghost hmat ?_
        refine AWp.seq ?_
        refine sr (c (mv hN (q 6)) rfl (c (OpJ.neqI (L rfl) (q 58) (Opd.int .i64 (0))) rfl cn)) ?_
        refine gh [(0, _), (1, _), (6, _), (59, _)] [] hB rfl rfl (by rfl) ?_
        refine AWp.cond rfl (fun hg62 => ?_) (fun hg62 => ?_)
        · replace h := ite_t hg62 h
          refine sr (c (mv hN (q 6)) rfl (c (OpJ.assign (L rfl) Opd.nils) rfl (c (OpJ.assign (L rfl) (q 60)) rfl cn))) ?_
          refine gh [(4, _), (5, _)] [] hB rfl rfl (by rfl) ?_
          refine AWp.ret ?_
          refine seqQ_r ?_
          obtain rfl := Option.some.inj h
          exact ⟨.inl rfl, _, _, (Mat.trans (Mat.coeP (Ts := [(4, (qe_api_Cell_4 ([] : List api_Cell)))]) (Bs := []) (TwT.cons (x := .nils) (by rfl) (Tw.leaf ⟨_, (Co.nils 4), rfl⟩) TwT.nil) TwB.nil) (mp [] [(4, (qe_api_Cell_4 ([] : List api_Cell))), (5, (i6 p41))] [] hB)), [(qe_api_Cell_4 ([] : List api_Cell)), (i6 p41)], (Res.tmp (by rfl) (by rfl) (Res.tmp (by rfl) (by rfl) Res.nil)), rfl, by rfl, by rfl, by rfl⟩
        · replace h := ite_f hg62 h
          refine AWp.skip ?_
          refine seqQ_n ?_
          refine sr (c (OpJ.assign (L rfl) Opd.nils) rfl cn) ?_
          refine gh [(0, _), (1, _), (13, _)] [] hB rfl rfl (by rfl) ?_
          refine AWp.seq ?_
          refine sr (c (mv hN (q 0)) rfl (c (OpJ.val (v' := (i6 (a0.length : Int))) (by simp) (OpJ.lenD Try.underlying33 (L rfl) (q 61))) rfl (c (mv hN (Opd.int .i64 (0))) rfl cn))) ?_
          refine gh [(1, _), (13, _), (61, _), (62, _), (63, _)] [] hB rfl rfl (by rfl) ?_
          refine AWp.block ?_
          obtain ⟨p74, hx81, h⟩ := bindS h
          refine lg (exchangepointref38_Cells_L1 a0 a1) (fun s63 : (List api_Cell) × Int => ([(1, (qe_api_Rule_8 a1)), (13, (qe_api_Cell_4 s63.1)), (61, (qe_api_Sample_6 a0)), (62, (i6 (a0.length : Int))), (63, (i6 s63.2))] : EL)) (fun s63 : (List api_Cell) × Int => ([] : OL)) (fun (p74 : ((List api_Cell))) e E' O' => e = .exit 2 ∧ Mat B E' O' ([(13, (qe_api_Cell_4 p74))] : EL) ([] : OL)) hx81 (Mat.trans (Mat.coeP (Ts := [(13, (qe_api_Cell_4 ([] : List api_Cell)))]) (Bs := []) (TwT.cons (x := .nils) (by rfl) (Tw.leaf ⟨_, (Co.nils 4), rfl⟩) TwT.nil) TwB.nil) (mp [] _ _ hB)) (fun s63 y h => ?_) (fun e E' O' hR => ?_)
          · unfold exchangepointref38_Cells_L1 at h
            refine sr (c (OpJ.lss (L rfl) (q 63) (q 62)) rfl cn) ?_
            refine gh [(1, _), (13, _), (61, _), (62, _), (63, _), (64, _)] [] hB rfl rfl (by rfl) ?_
            refine AWp.seq ?_
            refine AWp.cond rfl (fun hg75 => ?_) (fun hg75 => ?_)
            · replace h := ite_t hg75 h
              refine AWp.skip ?_
              refine seqQ_n ?_
              refine AWp.seq ?_
              refine AWp.block ?_
              obtain ⟨x76, hx76, h⟩ := bindS h
              refine sr (c (OpJ.indexD Try.underlying33 tyS54 (idx_some hx76).1 (get_map e_api_Sample (idx_some hx76).2) (L rfl) (q 61) (q 63)) rfl (c (OpJ.loadD tyS54 (by rfl) (by rfl) (L rfl) (q 65)) rfl (cg (OpJ.alloc hB tyZ54 (nm := 1015) (by decide) (L rfl)) rfl (cg (OpJ.storeB tyS54 (SetAt.here _ _) (by rfl) (by rfl) (by simp) rfl (q 15) (q 66)) rfl cn)))) ?_
              refine gh [(1, _), (13, _), (15, _), (61, _), (62, _), (63, _)] [(1015, some _)] hB rfl rfl (by rfl) ?_
              obtain ⟨r77, hr77, h⟩ := bindS h
              refine sr (c (mv hN (q 1)) rfl (c (ov (.ptr 1015 3 [3]) (fp hN Try.underlying54 3 tyS3 _ (q 15))) rfl (c (lb hN 54 _ _ tyS3 (ad _) (q 69)) rfl (cg (OpJ.callFn hB fnOk32 (exchangepointref38_owner_ac a1 x76.fIn r77 hr77) [] (by kernel_rfl) (L rfl) (by kernel_rfl) (OpdL.cons (q 68) (OpdL.cons (q 70) OpdL.nil))) rfl (c (mv hN (q 71)) rfl (c (OpJ.extract (by rfl) rfl (L rfl) (q 67)) rfl (c (OpJ.extract (by rfl) rfl (L rfl) (q 67)) rfl (c (OpJ.assign (L rfl) (q 72)) rfl (c (OpJ.assign (L rfl) (q 73)) rfl cn))))))))) ?_
              refine gh [(1, _), (13, _), (15, _), (16, _), (61, _), (62, _), (63, _)] [(1015, some _)] hB rfl rfl (by rfl) ?_
              obtain ⟨r78, hr78, h⟩ := bindS h
              refine sr (c (mv hN (q 1)) rfl (c (ov (.ptr 1015 4 [4]) (fp hN Try.underlying54 4 tyS3 _ (q 15))) rfl (c (lb hN 54 _ _ tyS3 (ad _) (q 76)) rfl (cg (OpJ.callFn hB fnOk32 (exchangepointref38_owner_ac a1 x76.fOut r78 hr78) [] (by kernel_rfl) (L rfl) (by kernel_rfl) (OpdL.cons (q 75) (OpdL.cons (q 77) OpdL.nil))) rfl (c (mv hN (q 78)) rfl (c (OpJ.extract (by rfl) rfl (L rfl) (q 74)) rfl (c (OpJ.extract (by rfl) rfl (L rfl) (q 74)) rfl (c (OpJ.assign (L rfl) (q 79)) rfl (c (OpJ.assign (L rfl) (q 80)) rfl cn))))))))) ?_
              refine gh [(1, _), (13, _), (15, _), (16, _), (18, _), (61, _), (62, _), (63, _)] [(1015, some _)] hB rfl rfl (by rfl) ?_
              obtain ⟨r79, hr79, h⟩ := bindS h
              refine rg (c (mv hN (q 13)) rfl (c (mv hN (q 16)) rfl (c (mv hN (q 18)) rfl (c (ov (.ptr 1015 5 [5]) (fp hN Try.underlying54 5 tyS3 _ (q 15))) rfl (c (lb hN 54 _ _ tyS3 (ad _) (q 84)) rfl (c (OpJ.coe (v := (.st [(i6 r77.1), (i6 r78.1), (i6 1), (i6 x76.fBytes)])) (y := (.st [(.int .i64 r77.1), (.int .i64 r78.1), (.int .i64 1), (.int .i64 x76.fBytes)])) (Co.st (CoL.cons (Co.d _) (CoL.cons (Co.d _) (CoL.cons (Co.d _) (CoL.cons (Co.d _) CoL.nil))))) rfl (OpJ.build (places := [(0, 1), (1, 1), (2, 1), (3, 1)]) ⟨Try.underlying23, fun w => by kernel_rfl⟩ tyZS23 (Opds.cons (q 82) (Opds.cons (q 83) (Opds.cons (Opd.int .i64 (1)) (Opds.cons (q 85) Opds.nil)))) (by kernel_rfl) (r := (.st [(i6 r77.1), (i6 r78.1), (i6 1), (i6 x76.fBytes)])) (by rfl) (L rfl))) rfl (cg (OpJ.callFn hB fnOk34 (exchangepointref38_put_ac s63.1 (api_Cell.mk r77.1 r78.1 (1 : Int) x76.fBytes) r79 hr79) [] (by kernel_rfl) (L rfl) (by kernel_rfl) (OpdL.cons (q 81) (OpdL.cons (q 86) OpdL.nil))) rfl (c (OpJ.assign (L rfl) (q 87)) rfl cn)))))))) ?_
              refine blkQ_n ?_
              refine seqQ_n ?_
              refine gh [(1, _), (13, _), (61, _), (62, _), (63, _)] [] hB rfl rfl (by rfl) ?_
              refine rg (c (add6 (L rfl) (q 63) (Opd.int .i64 (1))) rfl (c (mv hN (q 88)) rfl cn)) ?_
              obtain rfl := Option.some.inj h
              exact ⟨rfl, (Mat.trans (mp [] [(1, (qe_api_Rule_8 a1)), (13, (qe_api_Cell_4 r79)), (61, (qe_api_Sample_6 a0)), (62, (i6 (a0.length : Int))), (63, (i6 (w64 (s63.2 + (1 : Int)))))] [] hB) (mp [] _ _ hB))⟩
            · replace h := ite_f hg75 h
              refine AWp.exit ?_
              refine seqQ_e ?_
              obtain rfl := Option.some.inj h
              exact ⟨(fun hc => by cases hc), rfl, (mp [] _ _ hB)⟩
          · obtain ⟨rfl, hmat⟩ := hR
            refine blkQ_hit ?_
            refine seqQ_n ?_
            refine AWp.ghost hmat ?_
            refine AWp.seq ?_
            refine sr (c (mv hN (q 13)) rfl (c (OpJ.val (v' := (i6 (p74.length : Int))) (by simp) (OpJ.lenD Try.underlying27 (L rfl) (q 89))) rfl (c (OpJ.gtr (L rfl) (q 90) (Opd.int .i64 (1024))) rfl cn))) ?_
            refine gh [(13, _), (91, _)] [] hB rfl rfl (by rfl) ?_
            refine AWp.cond rfl (fun hg82 => ?_) (fun hg82 => ?_)
            · replace h := ite_t hg82 h
              refine sr (c (OpJ.assign (L rfl) Opd.nils) rfl (c (OpJ.assign (L rfl) (Opd.int .i64 (3))) rfl cn)) ?_
              refine gh [(4, _), (5, _)] [] hB rfl rfl (by rfl) ?_
              refine AWp.ret ?_
              refine seqQ_r ?_
              obtain rfl := Option.some.inj h
              exact ⟨.inl rfl, _, _, (Mat.trans (Mat.coeP (Ts := [(4, (qe_api_Cell_4 ([] : List api_Cell)))]) (Bs := []) (TwT.cons (x := .nils) (by rfl) (Tw.leaf ⟨_, (Co.nils 4), rfl⟩) TwT.nil) TwB.nil) (mp [] [(4, (qe_api_Cell_4 ([] : List api_Cell))), (5, (i6 (3 : Int)))] [] hB)), [(qe_api_Cell_4 ([] : List api_Cell)), (i6 (3 : Int))], (Res.tmp (by rfl) (by rfl) (Res.tmp (by rfl) (by rfl) Res.nil)), rfl, by rfl, by rfl, by rfl⟩
            · replace h := ite_f hg82 h
              refine AWp.skip ?_
              refine seqQ_n ?_
              refine sr (c (mv hN (q 13)) rfl (c (OpJ.assign (L rfl) (q 92)) rfl (c (OpJ.assign (L rfl) (Opd.int .i64 (0))) rfl cn))) ?_
              refine gh [(4, _), (5, _)] [] hB rfl rfl (by rfl) ?_
              refine AWp.ret ?_
              obtain rfl := Option.some.inj h
              exact ⟨.inl rfl, _, _, (kp [(4, _), (5, _)] [] hB rfl rfl (by rfl)), [(qe_api_Cell_4 p74), (i6 0)], (Res.tmp (by rfl) (by rfl) (Res.tmp (by rfl) (by rfl) Res.nil)), rfl, by rfl, by rfl, by rfl⟩

noncomputable def exchangepointref38_Same_L0 (a0 : (List api_Cell)) (a1 : (List api_Cell)) (s2 : Int) : Option (((Unit) ⊕ (Unit)) ⊕ (Int)) :=
  (if (decide (s2 < (a0.length : Int))) = true then
  (idx a0 s2).bind fun x14 =>
  (idx a1 s2).bind fun x15 =>
  (if (!((x14.fFrom == x15.fFrom) && ((x14.fTo == x15.fTo) && ((x14.fSamples == x15.fSamples) && ((x14.fBytes == x15.fBytes) && true))))) = true then
  some (.inl (.inl ()))
  else
  some (.inr (w64 (s2 + (1 : Int)))))
  else
  some (.inl (.inr ())))
noncomputable def exchangepointref38_Same (a0 : (List api_Cell)) (a1 : (List api_Cell)) : Option (Bool) :=
  (if ((a0.length : Int) != (a1.length : Int)) = true then
  some false
  else
  (loop (exchangepointref38_Same_L0 a0 a1) (0 : Int)).bind fun x17 => match x17 with
  | (.inl _) =>
    some false
  | (.inr _) =>
    some true)
set_option maxHeartbeats 4000000 in
set_option maxRecDepth 100000 in
theorem exchangepointref38_Same_ac (a0 : (List api_Cell)) (a1 : (List api_Cell)) (r : Bool) (h : exchangepointref38_Same a0 a1 = some r) : AC Try.prog 16 [(.d (.list 4 (a0.map e_api_Cell))), (.d (.list 4 (a1.map e_api_Cell)))] [] (.d (.bool r)) [] := by
  refine AC.of_code2 Try.func16 rfl rfl (Nat.le_of_ble_eq_true (by rfl)) fun B hB hN => ?_
  have L {d : Nat} (h : Nat.blt d Try.f16.ntmps = true) : d < B.N := ltN hN h
  delta exchangepointref38_Same at h
  refine sr (c (OpJ.assign (L rfl) (Opd.bool false)) rfl cn) ?_
  refine gh [(0, _), (1, _)] [] hB rfl rfl (by rfl) ?_
  refine AWp.seq ?_
  refine sr (c (mv hN (q 0)) rfl (c (OpJ.val (v' := (i6 (a0.length : Int))) (by simp) (OpJ.lenD Try.underlying27 (L rfl) (q 6))) rfl (c (mv hN (q 1)) rfl (c (OpJ.val (v' := (i6 (a1.length : Int))) (by simp) (OpJ.lenD Try.underlying27 (L rfl) (q 8))) rfl (c (OpJ.neqI (L rfl) (q 7) (q 9)) rfl cn))))) ?_
  refine gh [(0, _), (1, _), (10, _)] [] hB rfl rfl (by rfl) ?_
  refine AWp.cond rfl (fun hg1 => ?_) (fun hg1 => ?_)
  · replace h := ite_t hg1 h
    refine sr (c (OpJ.assign (L rfl) (Opd.bool false)) rfl cn) ?_
    refine gh [(4, _)] [] hB rfl rfl (by rfl) ?_
    refine AWp.ret ?_
    refine seqQ_r ?_
    obtain rfl := Option.some.inj h
    exact ⟨.inl rfl, _, _, (kp [(4, _)] [] hB rfl rfl (by rfl)), [(bo false)], (Res.tmp (by rfl) (by rfl) Res.nil), rfl, by rfl, by rfl, by rfl⟩
  · replace h := ite_f hg1 h
    refine AWp.skip ?_
    refine seqQ_n ?_
    refine AWp.seq ?_
    refine sr (c (mv hN (q 0)) rfl (c (OpJ.val (v' := (i6 (a0.length : Int))) (by simp) (OpJ.lenD Try.underlying27 (L rfl) (q 11))) rfl (c (mv hN (Opd.int .i64 (0))) rfl cn))) ?_
    refine gh [(0, _), (1, _), (12, _), (13, _)] [] hB rfl rfl (by rfl) ?_
    refine AWp.block ?_
    obtain ⟨x17, hx18, h⟩ := bindS h
    refine lg (exchangepointref38_Same_L0 a0 a1) (fun s2 : Int => ([(0, (qe_api_Cell_4 a0)), (1, (qe_api_Cell_4 a1)), (12, (i6 (a0.length : Int))), (13, (i6 s2))] : EL)) (fun s2 : Int => ([] : OL)) (fun (x : (Unit) ⊕ (Unit)) e E' O' => match x with | (.inl _p) => e = .ret ∧ Mat B E' O' ([(4, (bo false))] : EL) ([] : OL) | (.inr _p) => e = .exit 0 ∧ Mat B E' O' ([] : EL) ([] : OL)) hx18 (mp [] _ _ hB) (fun s2 y h => ?_) (fun e E' O' hR => ?_)
    · unfold exchangepointref38_Same_L0 at h
      refine sr (c (OpJ.lss (L rfl) (q 13) (q 12)) rfl cn) ?_
      refine gh [(0, _), (1, _), (12, _), (13, _), (14, _)] [] hB rfl rfl (by rfl) ?_
      refine AWp.seq ?_
      refine AWp.cond rfl (fun hg13 => ?_) (fun hg13 => ?_)
      · replace h := ite_t hg13 h
        refine AWp.skip ?_
        refine seqQ_n ?_
        refine AWp.seq ?_
        refine AWp.block ?_
        refine sr (c (mv hN (q 13)) rfl (c (OpJ.assign (L rfl) (q 15)) rfl cn)) ?_
        refine gh [(0, _), (1, _), (5, _), (12, _), (13, _)] [] hB rfl rfl (by rfl) ?_
        obtain ⟨x14, hx14, h⟩ := bindS h
        obtain ⟨x15, hx15, h⟩ := bindS h
        refine sd (c (mv hN (q 0)) rfl (c (mv hN (q 5)) rfl (c (OpJ.indexD Try.underlying27 tyS23 (idx_some hx14).1 (get_map e_api_Cell (idx_some hx14).2) (L rfl) (q 16) (q 17)) rfl (c (OpJ.loadD tyS23 (by rfl) (by rfl) (L rfl) (q 18)) rfl (c (mv hN (q 1)) rfl (c (mv hN (q 5)) rfl (c (OpJ.indexD Try.underlying27 tyS23 (idx_some hx15).1 (get_map e_api_Cell (idx_some hx15).2) (L rfl) (q 20) (q 21)) rfl (c (OpJ.loadD tyS23 (by rfl) (by rfl) (L rfl) (q 22)) rfl (c (OpJ.neqD (h := 2) (FitE.st Try.underlying23 rfl held23 (FitF.cons (x := (.int .i64 x14.fFrom)) (y := (.int .i64 x15.fFrom)) (by decide) rfl tyS3 ⟨rfl, rfl⟩ ⟨rfl, rfl⟩ (FitE.int (h := 0) x14.fFrom x15.fFrom Try.underlying3) (FitF.cons (x := (.int .i64 x14.fTo)) (y := (.int .i64 x15.fTo)) (by decide) rfl tyS3 ⟨rfl, rfl⟩ ⟨rfl, rfl⟩ (FitE.int (h := 0) x14.fTo x15.fTo Try.underlying3) (FitF.cons (x := (.int .i64 x14.fSamples)) (y := (.int .i64 x15.fSamples)) (by decide) rfl tyS3 ⟨rfl, rfl⟩ ⟨rfl, rfl⟩ (FitE.int (h := 0) x14.fSamples x15.fSamples Try.underlying3) (FitF.cons (x := (.int .i64 x14.fBytes)) (y := (.int .i64 x15.fBytes)) (by decide) rfl tyS3 ⟨rfl, rfl⟩ ⟨rfl, rfl⟩ (FitE.int (h := 0) x14.fBytes x15.fBytes Try.underlying3) FitF.nil))))) eqg23 ⟨rfl, rfl⟩ (by rfl) (L rfl) (q 19) (q 23)) rfl cn))))))))) (by kernel_rfl) (by kernel_rfl) ?_
        refine gh [(0, _), (1, _), (12, _), (13, _), (24, _)] [] hB rfl rfl (by rfl) ?_
        refine AWp.cond rfl (fun hg16 => ?_) (fun hg16 => ?_)
        · replace h := ite_t hg16 h
          refine sr (c (OpJ.assign (L rfl) (Opd.bool false)) rfl cn) ?_
          refine gh [(4, _)] [] hB rfl rfl (by rfl) ?_
          refine AWp.ret ?_
          refine blkQ_r ?_
          refine seqQ_r ?_
          obtain rfl := Option.some.inj h
          exact ⟨(fun hc => by cases hc), rfl, (mp [] _ _ hB)⟩
        · replace h := ite_f hg16 h
          refine AWp.skip ?_
          refine blkQ_n ?_
          refine seqQ_n ?_
          refine rg (c (add6 (L rfl) (q 13) (Opd.int .i64 (1))) rfl (c (mv hN (q 25)) rfl cn)) ?_
          obtain rfl := Option.some.inj h
          exact ⟨rfl, (Mat.trans (mp [] [(0, (qe_api_Cell_4 a0)), (1, (qe_api_Cell_4 a1)), (12, (i6 (a0.length : Int))), (13, (i6 (w64 (s2 + (1 : Int)))))] [] hB) (mp [] _ _ hB))⟩
      · replace h := ite_f hg13 h
        refine AWp.exit ?_
        refine seqQ_e ?_
        obtain rfl := Option.some.inj h
        exact ⟨(fun hc => by cases hc), rfl, (mp [] _ _ hB)⟩
    · rcases x17 with _ | _
      · obtain ⟨rfl, hmat⟩ := hR
        refine blkQ_r ?_
        refine seqQ_r ?_
        obtain rfl := Option.some.inj h
        exact ⟨.inl rfl, _, _, (Mat.trans hmat (mp [] [(4, (bo false))] [] hB)), [(bo false)], (Res.tmp (by rfl) (by rfl) Res.nil), rfl, by rfl, by rfl, by rfl⟩
      · obtain ⟨rfl, hmat⟩ := hR
        refine blkQ_hit ?_
        refine seqQ_n ?_
        refine AWp.ghost hmat ?_
        refine sr (c (OpJ.assign (L rfl) (Opd.bool true)) rfl cn) ?_
        refine gh [(4, _)] [] hB rfl rfl (by rfl) ?_
        refine AWp.ret ?_
        obtain rfl := Option.some.inj h
        exact ⟨.inl rfl, _, _, (kp [(4, _)] [] hB rfl rfl (by rfl)), [(bo true)], (Res.tmp (by rfl) (by rfl) Res.nil), rfl, by rfl, by rfl, by rfl⟩

noncomputable def matrix_Valid_L0 (a0 : (List api_Cell)) (s2 : Int) : Option (((Unit) ⊕ (Unit)) ⊕ (Int)) :=
  (if (decide (s2 < (a0.length : Int))) = true then
  (idx a0 s2).bind fun x46 =>
  jn (fun m55 : Bool =>
  (if m55 = true then
  some (.inl (.inl ()))
  else
  some (.inr (w64 (s2 + (1 : Int)))))) (fun j56 =>
  (matrix_number x46.fFrom).bind fun r58 =>
  (if (!r58) = true then
  j56 true
  else
  (matrix_number x46.fTo).bind fun r60 =>
  (if (((((!r60) || (decide (x46.fSamples < (1 : Int)))) || (decide ((1099511627776 : Int) < x46.fSamples))) || (decide (x46.fBytes < (0 : Int)))) || (decide ((1125899906842624 : Int) < x46.fBytes))) = true then
  j56 true
  else
  (if (decide ((0 : Int) < s2)) = true then
  (idx a0 (w64 (s2 - (1 : Int)))).bind fun x63 =>
  (matrix_compare x63 x46).bind fun r64 =>
  j56 (decide ((0 : Int) ≤ r64))
  else
  j56 false))))
  else
  some (.inl (.inr ())))
noncomputable def matrix_Valid (a0 : (List api_Cell)) : Option (Bool) :=
  (if (decide ((1024 : Int) < (a0.length : Int))) = true then
  some false
  else
  (loop (matrix_Valid_L0 a0) (0 : Int)).bind fun x65 => match x65 with
  | (.inl _) =>
    some false
  | (.inr _) =>
    some true)
set_option maxHeartbeats 4000000 in
set_option maxRecDepth 100000 in
theorem matrix_Valid_ac (a0 : (List api_Cell)) (r : Bool) (h : matrix_Valid a0 = some r) : AC Try.prog 17 [(.d (.list 4 (a0.map e_api_Cell)))] [] (.d (.bool r)) [] := by
  refine AC.of_code2 Try.func17 rfl rfl (Nat.le_of_ble_eq_true (by rfl)) fun B hB hN => ?_
  have L {d : Nat} (h : Nat.blt d Try.f17.ntmps = true) : d < B.N := ltN hN h
  delta matrix_Valid at h
  refine sr (c (OpJ.assign (L rfl) (Opd.bool false)) rfl cn) ?_
  refine gh [(0, _)] [] hB rfl rfl (by rfl) ?_
  refine AWp.seq ?_
  refine sr (c (mv hN (q 0)) rfl (c (OpJ.val (v' := (i6 (a0.length : Int))) (by simp) (OpJ.lenD Try.underlying27 (L rfl) (q 5))) rfl (c (OpJ.gtr (L rfl) (q 6) (Opd.int .i64 (1024))) rfl cn))) ?_
  refine gh [(0, _), (7, _)] [] hB rfl rfl (by rfl) ?_
  refine AWp.cond rfl (fun hg1 => ?_) (fun hg1 => ?_)
  · replace h := ite_t hg1 h
    refine sr (c (OpJ.assign (L rfl) (Opd.bool false)) rfl cn) ?_
    refine gh [(2, _)] [] hB rfl rfl (by rfl) ?_
    refine AWp.ret ?_
    refine seqQ_r ?_
    obtain rfl := Option.some.inj h
    exact ⟨.inl rfl, _, _, (kp [(2, _)] [] hB rfl rfl (by rfl)), [(bo false)], (Res.tmp (by rfl) (by rfl) Res.nil), rfl, by rfl, by rfl, by rfl⟩
  · replace h := ite_f hg1 h
    refine AWp.skip ?_
    refine seqQ_n ?_
    refine AWp.seq ?_
    refine sr (c (mv hN (q 0)) rfl (c (OpJ.val (v' := (i6 (a0.length : Int))) (by simp) (OpJ.lenD Try.underlying27 (L rfl) (q 8))) rfl (c (mv hN (Opd.int .i64 (0))) rfl cn))) ?_
    refine gh [(0, _), (8, _), (9, _), (10, _)] [] hB rfl rfl (by rfl) ?_
    refine AWp.block ?_
    obtain ⟨x65, hx66, h⟩ := bindS h
    refine lg (matrix_Valid_L0 a0) (fun s2 : Int => ([(0, (qe_api_Cell_4 a0)), (8, (qe_api_Cell_4 a0)), (9, (i6 (a0.length : Int))), (10, (i6 s2))] : EL)) (fun s2 : Int => ([] : OL)) (fun (x : (Unit) ⊕ (Unit)) e E' O' => match x with | (.inl _p) => e = .ret ∧ Mat B E' O' ([(2, (bo false))] : EL) ([] : OL) | (.inr _p) => e = .exit 0 ∧ Mat B E' O' ([] : EL) ([] : OL)) hx66 (mp [] _ _ hB) (fun s2 y h => ?_) (fun e E' O' hR => ?_)
    · unfold matrix_Valid_L0 at h
      refine sr (c (OpJ.lss (L rfl) (q 10) (q 9)) rfl cn) ?_
      refine gh [(0, _), (8, _), (9, _), (10, _), (11, _)] [] hB rfl rfl (by rfl) ?_
      refine AWp.seq ?_
      refine AWp.cond rfl (fun hg45 => ?_) (fun hg45 => ?_)
      · replace h := ite_t hg45 h
        refine AWp.skip ?_
        refine seqQ_n ?_
        refine AWp.seq ?_
        refine AWp.block ?_
        obtain ⟨x46, hx46, h⟩ := bindS h
        refine sr (c (mv hN (q 10)) rfl (c (OpJ.indexD Try.underlying27 tyS23 (idx_some hx46).1 (get_map e_api_Cell (idx_some hx46).2) (L rfl) (q 8) (q 10)) rfl (c (OpJ.loadD tyS23 (by rfl) (by rfl) (L rfl) (q 13)) rfl (cg (OpJ.alloc hB tyZ23 (nm := 1004) (by decide) (L rfl)) rfl (c (OpJ.assign (L rfl) (q 12)) rfl (cg (OpJ.storeB tyS23 (SetAt.here _ _) (by rfl) (by rfl) (by simp) rfl (q 4) (q 14)) rfl cn)))))) ?_
        refine gh [(0, _), (3, _), (4, _), (8, _), (9, _), (10, _)] [(1004, some _)] hB rfl rfl (by rfl) ?_
        refine AWp.seq ?_
        refine AWp.cut h (fun m55 : Bool => ([(0, (qe_api_Cell_4 a0)), (8, (qe_api_Cell_4 a0)), (9, (i6 (a0.length : Int))), (10, (i6 s2)), (58, (bo m55))] : EL)) (fun m55 : Bool => ([] : OL)) (fun m55 h E' O' hmat => ?_) (fun j56 hjj56 h => ?_)
        · refine seqQ_n ?_
          refine AWp.ghost hmat ?_
          refine AWp.cond rfl (fun hg57 => ?_) (fun hg57 => ?_)
          · replace h := ite_t hg57 h
            refine sr (c (OpJ.assign (L rfl) (Opd.bool false)) rfl cn) ?_
            refine gh [(2, _)] [] hB rfl rfl (by rfl) ?_
            refine AWp.ret ?_
            refine blkQ_r ?_
            refine seqQ_r ?_
            obtain rfl := Option.some.inj h
            exact ⟨(fun hc => by cases hc), rfl, (mp [] _ _ hB)⟩
          · replace h := ite_f hg57 h
            refine AWp.skip ?_
            refine blkQ_n ?_
            refine seqQ_n ?_
            refine rg (c (add6 (L rfl) (q 10) (Opd.int .i64 (1))) rfl (c (mv hN (q 59)) rfl cn)) ?_
            obtain rfl := Option.some.inj h
            exact ⟨rfl, (Mat.trans (mp [] [(0, (qe_api_Cell_4 a0)), (8, (qe_api_Cell_4 a0)), (9, (i6 (a0.length : Int))), (10, (i6 (w64 (s2 + (1 : Int)))))] [] hB) (mp [] _ _ hB))⟩
        · obtain ⟨r58, hr58, h⟩ := bindS h
          rcases Bool.eq_false_or_eq_true (!r58) with hg59 | hg59
          · replace h := ite_t hg59 h
            refine dr (c (ov (.ptr 1004 0 [0]) (fp hN Try.underlying23 0 tyS3 _ (q 4))) rfl (c (lb hN 23 _ _ tyS3 (ad _) (q 15)) rfl (cg (OpJ.callFn hB fnOk36 (matrix_number_ac x46.fFrom r58 hr58) [] (by kernel_rfl) (L rfl) (by kernel_rfl) (OpdL.cons (q 16) OpdL.nil)) rfl (c (OpJ.not (L rfl) (q 17)) rfl (c (OpJ.val (v' := .d (.bool true)) (by rw [hg59]) (mv hN (q 18))) rfl (cg (OpJ.skipU (g := 19) (L rfl) (by rfl)) rfl (cg (OpJ.skipU (g := 19) (L rfl) (by rfl)) rfl (cg (OpJ.skipU (g := 19) (L rfl) (by rfl)) rfl (cg (OpJ.skipU (g := 19) (L rfl) (by rfl)) rfl (c (OpJ.pickT (L rfl) (q 19) (Opd.bool true)) rfl (c (mv hN (q 24)) rfl (cg (OpJ.skipU (g := 25) (L rfl) (by rfl)) rfl (cg (OpJ.skipU (g := 25) (L rfl) (by rfl)) rfl (cg (OpJ.skipU (g := 25) (L rfl) (by rfl)) rfl (c (OpJ.pickT (L rfl) (q 25) (Opd.bool true)) rfl (c (mv hN (q 29)) rfl (cg (OpJ.skipU (g := 30) (L rfl) (by rfl)) rfl (cg (OpJ.skipU (g := 30) (L rfl) (by rfl)) rfl (cg (OpJ.skipU (g := 30) (L rfl) (by rfl)) rfl (c (OpJ.pickT (L rfl) (q 30) (Opd.bool true)) rfl (c (mv hN (q 34)) rfl (cg (OpJ.skipU (g := 35) (L rfl) (by rfl)) rfl (cg (OpJ.skipU (g := 35) (L rfl) (by rfl)) rfl (cg (OpJ.skipU (g := 35) (L rfl) (by rfl)) rfl (c (OpJ.pickT (L rfl) (q 35) (Opd.bool true)) rfl (c (mv hN (q 39)) rfl (cg (OpJ.skipU (g := 40) (L rfl) (by rfl)) rfl (cg (OpJ.skipU (g := 40) (L rfl) (by rfl)) rfl (cg (OpJ.skipU (g := 40) (L rfl) (by rfl)) rfl (c (OpJ.pickT (L rfl) (q 40) (Opd.bool true)) rfl (c (mv hN (q 44)) rfl (cg (OpJ.skipU (g := 45) (L rfl) (by rfl)) rfl (cg (OpJ.skipU (g := 45) (L rfl) (by rfl)) rfl (cg (OpJ.skipU (g := 45) (L rfl) (by rfl)) rfl (cg (OpJ.skipV (g := 48) (L rfl) (by rfl)) rfl (cg (OpJ.skipV (g := 48) (L rfl) (by rfl)) rfl (cg (OpJ.skipV (g := 48) (L rfl) (by rfl)) rfl (cg (OpJ.skipV (g := 48) (L rfl) (by rfl)) rfl (cg (OpJ.skipV (g := 48) (L rfl) (by rfl)) rfl (cg (OpJ.skipV (g := 48) (L rfl) (by rfl)) rfl (cg (OpJ.skipV (g := 48) (L rfl) (by rfl)) rfl (cg (OpJ.skipV (g := 48) (L rfl) (by rfl)) rfl (cg (OpJ.skipU (g := 45) (L rfl) (by rfl)) rfl (c (OpJ.pickT (L rfl) (q 45) (Opd.bool true)) rfl cn)))))))))))))))))))))))))))))))))))))))))))) (by kernel_rfl) (by kernel_rfl) ?_
            exact hjj56 _ h _ _ (Mat.trans (mp [] [(0, (qe_api_Cell_4 a0)), (8, (qe_api_Cell_4 a0)), (9, (i6 (a0.length : Int))), (10, (i6 s2)), (58, (bo true))] [] hB) (mp [] _ _ hB))
          · replace h := ite_f hg59 h
            obtain ⟨r60, hr60, h⟩ := bindS h
            rcases Bool.eq_false_or_eq_true (((((!r60) || (decide (x46.fSamples < (1 : Int)))) || (decide ((1099511627776 : Int) < x46.fSamples))) || (decide (x46.fBytes < (0 : Int)))) || (decide ((1125899906842624 : Int) < x46.fBytes))) with hg61 | hg61
            · replace h := ite_t hg61 h
              refine dr (c (ov (.ptr 1004 0 [0]) (fp hN Try.underlying23 0 tyS3 _ (q 4))) rfl (c (lb hN 23 _ _ tyS3 (ad _) (q 15)) rfl (cg (OpJ.callFn hB fnOk36 (matrix_number_ac x46.fFrom r58 hr58) [] (by kernel_rfl) (L rfl) (by kernel_rfl) (OpdL.cons (q 16) OpdL.nil)) rfl (c (OpJ.not (L rfl) (q 17)) rfl (c (OpJ.val (v' := .d (.bool false)) (by rw [hg59]) (mv hN (q 18))) rfl (c (OpJ.guarded (g := 19) (by rfl) (ov (.ptr 1004 1 [1]) (fp hN Try.underlying23 1 tyS3 _ (q 4)))) rfl (c (OpJ.guarded (g := 19) (by rfl) (lb hN 23 _ _ tyS3 (ad _) (q 20))) rfl (cg (OpJ.guarded (g := 19) (by rfl) (OpJ.callFn hB fnOk36 (matrix_number_ac x46.fTo r60 hr60) [] (by kernel_rfl) (L rfl) (by kernel_rfl) (OpdL.cons (q 21) OpdL.nil))) rfl (c (OpJ.guarded (g := 19) (by rfl) (OpJ.not (L rfl) (q 22))) rfl (c (OpJ.pickF (L rfl) (q 19) (q 23)) rfl (c (mv hN (q 24)) rfl (c (oq hN 25 (ov (.ptr 1004 2 [2]) (fp hN Try.underlying23 2 tyS3 _ (q 4))) (OptL.keep (by rfl) OptL.nil) (GuardV.plain _)) rfl (c (oq hN 25 (lb hN 23 _ _ tyS3 (ad _) (q 26)) (OptL.opt OptL.nil) (GuardV.plain _)) rfl (c (oq hN 25 (OpJ.lss (L rfl) (q 27) (Opd.int .i64 (1))) (OptL.opt OptL.nil) (GuardV.plain _)) rfl (c (OpJ.pickOr rfl (L rfl) (q 25) (q 28)) rfl (c (mv hN (q 29)) rfl (c (oq hN 30 (ov (.ptr 1004 2 [2]) (fp hN Try.underlying23 2 tyS3 _ (q 4))) (OptL.keep (by rfl) OptL.nil) (GuardV.plain _)) rfl (c (oq hN 30 (lb hN 23 _ _ tyS3 (ad _) (q 31)) (OptL.opt OptL.nil) (GuardV.plain _)) rfl (c (oq hN 30 (OpJ.gtr (L rfl) (q 32) (Opd.int .i64 (1099511627776))) (OptL.opt OptL.nil) (GuardV.plain _)) rfl (c (OpJ.pickOr rfl (L rfl) (q 30) (q 33)) rfl (c (mv hN (q 34)) rfl (c (oq hN 35 (ov (.ptr 1004 3 [3]) (fp hN Try.underlying23 3 tyS3 _ (q 4))) (OptL.keep (by rfl) OptL.nil) (GuardV.plain _)) rfl (c (oq hN 35 (lb hN 23 _ _ tyS3 (ad _) (q 36)) (OptL.opt OptL.nil) (GuardV.plain _)) rfl (c (oq hN 35 (OpJ.lss (L rfl) (q 37) (Opd.int .i64 (0))) (OptL.opt OptL.nil) (GuardV.plain _)) rfl (c (OpJ.pickOr rfl (L rfl) (q 35) (q 38)) rfl (c (mv hN (q 39)) rfl (c (oq hN 40 (ov (.ptr 1004 3 [3]) (fp hN Try.underlying23 3 tyS3 _ (q 4))) (OptL.keep (by rfl) OptL.nil) (GuardV.plain _)) rfl (c (oq hN 40 (lb hN 23 _ _ tyS3 (ad _) (q 41)) (OptL.opt OptL.nil) (GuardV.plain _)) rfl (c (oq hN 40 (OpJ.gtr (L rfl) (q 42) (Opd.int .i64 (1125899906842624))) (OptL.opt OptL.nil) (GuardV.plain _)) rfl (c (OpJ.pickOr rfl (L rfl) (q 40) (q 43)) rfl (c (OpJ.val (v' := .d (.bool true)) (by rw [hg61]) (mv hN (q 44))) rfl (cg (OpJ.skipU (g := 45) (L rfl) (by rfl)) rfl (cg (OpJ.skipU (g := 45) (L rfl) (by rfl)) rfl (cg (OpJ.skipU (g := 45) (L rfl) (by rfl)) rfl (cg (OpJ.skipV (g := 48) (L rfl) (by rfl)) rfl (cg (OpJ.skipV (g := 48) (L rfl) (by rfl)) rfl (cg (OpJ.skipV (g := 48) (L rfl) (by rfl)) rfl (cg (OpJ.skipV (g := 48) (L rfl) (by rfl)) rfl (cg (OpJ.skipV (g := 48) (L rfl) (by rfl)) rfl (cg (OpJ.skipV (g := 48) (L rfl) (by rfl)) rfl (cg (OpJ.skipV (g := 48) (L rfl) (by rfl)) rfl (cg (OpJ.skipV (g := 48) (L rfl) (by rfl)) rfl (cg (OpJ.skipU (g := 45) (L rfl) (by rfl)) rfl (c (OpJ.pickT (L rfl) (q 45) (Opd.bool true)) rfl cn)))))))))))))))))))))))))))))))))))))))))))) (by kernel_rfl) (by kernel_rfl) ?_
              exact hjj56 _ h _ _ (Mat.trans (mp [] [(0, (qe_api_Cell_4 a0)), (8, (qe_api_Cell_4 a0)), (9, (i6 (a0.length : Int))), (10, (i6 s2)), (58, (bo true))] [] hB) (mp [] _ _ hB))
            · replace h := ite_f hg61 h
              rcases Bool.eq_false_or_eq_true (decide ((0 : Int) < s2)) with hg62 | hg62
              · replace h := ite_t hg62 h
                obtain ⟨x63, hx63, h⟩ := bindS h
                obtain ⟨r64, hr64, h⟩ := bindS h
                refine dr (c (ov (.ptr 1004 0 [0]) (fp hN Try.underlying23 0 tyS3 _ (q 4))) rfl (c (lb hN 23 _ _ tyS3 (ad _) (q 15)) rfl (cg (OpJ.callFn hB fnOk36 (matrix_number_ac x46.fFrom r58 hr58) [] (by kernel_rfl) (L rfl) (by kernel_rfl) (OpdL.cons (q 16) OpdL.nil)) rfl (c (OpJ.not (L rfl) (q 17)) rfl (c (OpJ.val (v' := .d (.bool false)) (by rw [hg59]) (mv hN (q 18))) rfl (c (OpJ.guarded (g := 19) (by rfl) (ov (.ptr 1004 1 [1]) (fp hN Try.underlying23 1 tyS3 _ (q 4)))) rfl (c (OpJ.guarded (g := 19) (by rfl) (lb hN 23 _ _ tyS3 (ad _) (q 20))) rfl (cg (OpJ.guarded (g := 19) (by rfl) (OpJ.callFn hB fnOk36 (matrix_number_ac x46.fTo r60 hr60) [] (by kernel_rfl) (L rfl) (by kernel_rfl) (OpdL.cons (q 21) OpdL.nil))) rfl (c (OpJ.guarded (g := 19) (by rfl) (OpJ.not (L rfl) (q 22))) rfl (c (OpJ.pickF (L rfl) (q 19) (q 23)) rfl (c (mv hN (q 24)) rfl (c (oq hN 25 (ov (.ptr 1004 2 [2]) (fp hN Try.underlying23 2 tyS3 _ (q 4))) (OptL.keep (by rfl) OptL.nil) (GuardV.plain _)) rfl (c (oq hN 25 (lb hN 23 _ _ tyS3 (ad _) (q 26)) (OptL.opt OptL.nil) (GuardV.plain _)) rfl (c (oq hN 25 (OpJ.lss (L rfl) (q 27) (Opd.int .i64 (1))) (OptL.opt OptL.nil) (GuardV.plain _)) rfl (c (OpJ.pickOr rfl (L rfl) (q 25) (q 28)) rfl (c (mv hN (q 29)) rfl (c (oq hN 30 (ov (.ptr 1004 2 [2]) (fp hN Try.underlying23 2 tyS3 _ (q 4))) (OptL.keep (by rfl) OptL.nil) (GuardV.plain _)) rfl (c (oq hN 30 (lb hN 23 _ _ tyS3 (ad _) (q 31)) (OptL.opt OptL.nil) (GuardV.plain _)) rfl (c (oq hN 30 (OpJ.gtr (L rfl) (q 32) (Opd.int .i64 (1099511627776))) (OptL.opt OptL.nil) (GuardV.plain _)) rfl (c (OpJ.pickOr rfl (L rfl) (q 30) (q 33)) rfl (c (mv hN (q 34)) rfl (c (oq hN 35 (ov (.ptr 1004 3 [3]) (fp hN Try.underlying23 3 tyS3 _ (q 4))) (OptL.keep (by rfl) OptL.nil) (GuardV.plain _)) rfl (c (oq hN 35 (lb hN 23 _ _ tyS3 (ad _) (q 36)) (OptL.opt OptL.nil) (GuardV.plain _)) rfl (c (oq hN 35 (OpJ.lss (L rfl) (q 37) (Opd.int .i64 (0))) (OptL.opt OptL.nil) (GuardV.plain _)) rfl (c (OpJ.pickOr rfl (L rfl) (q 35) (q 38)) rfl (c (mv hN (q 39)) rfl (c (oq hN 40 (ov (.ptr 1004 3 [3]) (fp hN Try.underlying23 3 tyS3 _ (q 4))) (OptL.keep (by rfl) OptL.nil) (GuardV.plain _)) rfl (c (oq hN 40 (lb hN 23 _ _ tyS3 (ad _) (q 41)) (OptL.opt OptL.nil) (GuardV.plain _)) rfl (c (oq hN 40 (OpJ.gtr (L rfl) (q 42) (Opd.int .i64 (1125899906842624))) (OptL.opt OptL.nil) (GuardV.plain _)) rfl (c (OpJ.pickOr rfl (L rfl) (q 40) (q 43)) rfl (c (OpJ.val (v' := .d (.bool false)) (by rw [hg61]) (mv hN (q 44))) rfl (c (OpJ.guarded (g := 45) (by rfl) (mv hN (q 3))) rfl (c (OpJ.guarded (g := 45) (by rfl) (OpJ.gtr (L rfl) (q 46) (Opd.int .i64 (0)))) rfl (c (OpJ.guarded (g := 45) (by rfl) (OpJ.val (v' := .d (.bool true)) (by rw [hg62]) (mv hN (q 47)))) rfl (c (OpJ.guarded (g := 48) (by rfl) (mv hN (q 0))) rfl (c (OpJ.guarded (g := 48) (by rfl) (mv hN (q 3))) rfl (c (OpJ.guarded (g := 48) (by rfl) (sub6 (L rfl) (q 50) (Opd.int .i64 (1)))) rfl (c (OpJ.guarded (g := 48) (by rfl) (OpJ.indexD Try.underlying27 tyS23 (idx_some hx63).1 (get_map e_api_Cell (idx_some hx63).2) (L rfl) (q 49) (q 51))) rfl (c (OpJ.guarded (g := 48) (by rfl) (OpJ.loadD tyS23 (by rfl) (by rfl) (L rfl) (q 52))) rfl (c (OpJ.guarded (g := 48) (by rfl) (lb hN 23 _ _ tyS23 (At.here _) (q 4))) rfl (cg (OpJ.guarded (g := 48) (by rfl) (OpJ.callFn hB fnOk39 (matrix_compare_ac x63 x46 r64 hr64) [] (by kernel_rfl) (L rfl) (by kernel_rfl) (OpdL.cons (q 53) (OpdL.cons (q 54) OpdL.nil)))) rfl (c (OpJ.guarded (g := 48) (by rfl) (OpJ.geq (L rfl) (q 55) (Opd.int .i64 (0)))) rfl (c (OpJ.guarded (g := 45) (by rfl) (OpJ.pickT (L rfl) (q 48) (q 56))) rfl (c (OpJ.pickF (L rfl) (q 45) (q 57)) rfl cn)))))))))))))))))))))))))))))))))))))))))))) (by kernel_rfl) (by kernel_rfl) ?_
                exact hjj56 _ h _ _ (Mat.trans (mp [] [(0, (qe_api_Cell_4 a0)), (8, (qe_api_Cell_4 a0)), (9, (i6 (a0.length : Int))), (10, (i6 s2)), (58, (bo (decide ((0 : Int) ≤ r64))))] [] hB) (mp [] _ _ hB))
              · replace h := ite_f hg62 h
                refine dr (c (ov (.ptr 1004 0 [0]) (fp hN Try.underlying23 0 tyS3 _ (q 4))) rfl (c (lb hN 23 _ _ tyS3 (ad _) (q 15)) rfl (cg (OpJ.callFn hB fnOk36 (matrix_number_ac x46.fFrom r58 hr58) [] (by kernel_rfl) (L rfl) (by kernel_rfl) (OpdL.cons (q 16) OpdL.nil)) rfl (c (OpJ.not (L rfl) (q 17)) rfl (c (OpJ.val (v' := .d (.bool false)) (by rw [hg59]) (mv hN (q 18))) rfl (c (OpJ.guarded (g := 19) (by rfl) (ov (.ptr 1004 1 [1]) (fp hN Try.underlying23 1 tyS3 _ (q 4)))) rfl (c (OpJ.guarded (g := 19) (by rfl) (lb hN 23 _ _ tyS3 (ad _) (q 20))) rfl (cg (OpJ.guarded (g := 19) (by rfl) (OpJ.callFn hB fnOk36 (matrix_number_ac x46.fTo r60 hr60) [] (by kernel_rfl) (L rfl) (by kernel_rfl) (OpdL.cons (q 21) OpdL.nil))) rfl (c (OpJ.guarded (g := 19) (by rfl) (OpJ.not (L rfl) (q 22))) rfl (c (OpJ.pickF (L rfl) (q 19) (q 23)) rfl (c (mv hN (q 24)) rfl (c (oq hN 25 (ov (.ptr 1004 2 [2]) (fp hN Try.underlying23 2 tyS3 _ (q 4))) (OptL.keep (by rfl) OptL.nil) (GuardV.plain _)) rfl (c (oq hN 25 (lb hN 23 _ _ tyS3 (ad _) (q 26)) (OptL.opt OptL.nil) (GuardV.plain _)) rfl (c (oq hN 25 (OpJ.lss (L rfl) (q 27) (Opd.int .i64 (1))) (OptL.opt OptL.nil) (GuardV.plain _)) rfl (c (OpJ.pickOr rfl (L rfl) (q 25) (q 28)) rfl (c (mv hN (q 29)) rfl (c (oq hN 30 (ov (.ptr 1004 2 [2]) (fp hN Try.underlying23 2 tyS3 _ (q 4))) (OptL.keep (by rfl) OptL.nil) (GuardV.plain _)) rfl (c (oq hN 30 (lb hN 23 _ _ tyS3 (ad _) (q 31)) (OptL.opt OptL.nil) (GuardV.plain _)) rfl (c (oq hN 30 (OpJ.gtr (L rfl) (q 32) (Opd.int .i64 (1099511627776))) (OptL.opt OptL.nil) (GuardV.plain _)) rfl (c (OpJ.pickOr rfl (L rfl) (q 30) (q 33)) rfl (c (mv hN (q 34)) rfl (c (oq hN 35 (ov (.ptr 1004 3 [3]) (fp hN Try.underlying23 3 tyS3 _ (q 4))) (OptL.keep (by rfl) OptL.nil) (GuardV.plain _)) rfl (c (oq hN 35 (lb hN 23 _ _ tyS3 (ad _) (q 36)) (OptL.opt OptL.nil) (GuardV.plain _)) rfl (c (oq hN 35 (OpJ.lss (L rfl) (q 37) (Opd.int .i64 (0))) (OptL.opt OptL.nil) (GuardV.plain _)) rfl (c (OpJ.pickOr rfl (L rfl) (q 35) (q 38)) rfl (c (mv hN (q 39)) rfl (c (oq hN 40 (ov (.ptr 1004 3 [3]) (fp hN Try.underlying23 3 tyS3 _ (q 4))) (OptL.keep (by rfl) OptL.nil) (GuardV.plain _)) rfl (c (oq hN 40 (lb hN 23 _ _ tyS3 (ad _) (q 41)) (OptL.opt OptL.nil) (GuardV.plain _)) rfl (c (oq hN 40 (OpJ.gtr (L rfl) (q 42) (Opd.int .i64 (1125899906842624))) (OptL.opt OptL.nil) (GuardV.plain _)) rfl (c (OpJ.pickOr rfl (L rfl) (q 40) (q 43)) rfl (c (OpJ.val (v' := .d (.bool false)) (by rw [hg61]) (mv hN (q 44))) rfl (c (OpJ.guarded (g := 45) (by rfl) (mv hN (q 3))) rfl (c (OpJ.guarded (g := 45) (by rfl) (OpJ.gtr (L rfl) (q 46) (Opd.int .i64 (0)))) rfl (c (OpJ.guarded (g := 45) (by rfl) (OpJ.val (v' := .d (.bool false)) (by rw [hg62]) (mv hN (q 47)))) rfl (cg (OpJ.skipU (g := 48) (L rfl) (by rfl)) rfl (cg (OpJ.skipU (g := 48) (L rfl) (by rfl)) rfl (cg (OpJ.skipU (g := 48) (L rfl) (by rfl)) rfl (cg (OpJ.skipU (g := 48) (L rfl) (by rfl)) rfl (cg (OpJ.skipU (g := 48) (L rfl) (by rfl)) rfl (cg (OpJ.skipU (g := 48) (L rfl) (by rfl)) rfl (cg (OpJ.skipU (g := 48) (L rfl) (by rfl)) rfl (cg (OpJ.skipU (g := 48) (L rfl) (by rfl)) rfl (c (OpJ.guarded (g := 45) (by rfl) (OpJ.pickF (L rfl) (q 48) (Opd.bool false))) rfl (c (OpJ.pickF (L rfl) (q 45) (q 57)) rfl cn)))))))))))))))))))))))))))))))))))))))))))) (by kernel_rfl) (by kernel_rfl) ?_
                exact hjj56 _ h _ _ (Mat.trans (mp [] [(0, (qe_api_Cell_4 a0)), (8, (qe_api_Cell_4 a0)), (9, (i6 (a0.length : Int))), (10, (i6 s2)), (58, (bo false))] [] hB) (mp [] _ _ hB))
      · replace h := ite_f hg45 h
        refine AWp.exit ?_
        refine seqQ_e ?_
        obtain rfl := Option.some.inj h
        exact ⟨(fun hc => by cases hc), rfl, (mp [] _ _ hB)⟩
    · rcases x65 with _ | _
      · obtain ⟨rfl, hmat⟩ := hR
        refine blkQ_r ?_
        refine seqQ_r ?_
        obtain rfl := Option.some.inj h
        exact ⟨.inl rfl, _, _, (Mat.trans hmat (mp [] [(2, (bo false))] [] hB)), [(bo false)], (Res.tmp (by rfl) (by rfl) Res.nil), rfl, by rfl, by rfl, by rfl⟩
      · obtain ⟨rfl, hmat⟩ := hR
        refine blkQ_hit ?_
        refine seqQ_n ?_
        refine AWp.ghost hmat ?_
        refine sr (c (OpJ.assign (L rfl) (Opd.bool true)) rfl cn) ?_
        refine gh [(2, _)] [] hB rfl rfl (by rfl) ?_
        refine AWp.ret ?_
        obtain rfl := Option.some.inj h
        exact ⟨.inl rfl, _, _, (kp [(2, _)] [] hB rfl rfl (by rfl)), [(bo true)], (Res.tmp (by rfl) (by rfl) Res.nil), rfl, by rfl, by rfl, by rfl⟩

noncomputable def exchangepointref38_Valid_L0 (a0 : (List api_Cell)) (s1 : Int) : Option (((Unit) ⊕ (Unit)) ⊕ (Int)) :=
  (if (decide (s1 < (a0.length : Int))) = true then
  (idx a0 s1).bind fun x45 =>
  jn (fun m54 : Bool =>
  (if m54 = true then
  some (.inl (.inl ()))
  else
  some (.inr (w64 (s1 + (1 : Int)))))) (fun j55 =>
  (exchangepointref38_asn x45.fFrom).bind fun r57 =>
  (if (!r57) = true then
  j55 true
  else
  (exchangepointref38_asn x45.fTo).bind fun r59 =>
  (if (((((!r59) || (decide (x45.fSamples < (1 : Int)))) || (decide ((1099511627776 : Int) < x45.fSamples))) || (decide (x45.fBytes < (0 : Int)))) || (decide ((1125899906842624 : Int) < x45.fBytes))) = true then
  j55 true
  else
  (if (decide ((0 : Int) < s1)) = true then
  (idx a0 (w64 (s1 - (1 : Int)))).bind fun x62 =>
  (exchangepointref38_less x62 x45).bind fun r63 =>
  j55 (!r63)
  else
  j55 false))))
  else
  some (.inl (.inr ())))
noncomputable def exchangepointref38_Valid (a0 : (List api_Cell)) : Option (Bool) :=
  (loop (exchangepointref38_Valid_L0 a0) (0 : Int)).bind fun x64 => match x64 with
  | (.inl _) =>
    some false
  | (.inr _) =>
    some (decide ((a0.length : Int) ≤ (1024 : Int)))
set_option maxHeartbeats 4000000 in
set_option maxRecDepth 100000 in
theorem exchangepointref38_Valid_ac (a0 : (List api_Cell)) (r : Bool) (h : exchangepointref38_Valid a0 = some r) : AC Try.prog 18 [(.d (.list 4 (a0.map e_api_Cell)))] [] (.d (.bool r)) [] := by
  refine AC.of_code2 Try.func18 rfl rfl (Nat.le_of_ble_eq_true (by rfl)) fun B hB hN => ?_
  have L {d : Nat} (h : Nat.blt d Try.f18.ntmps = true) : d < B.N := ltN hN h
  delta exchangepointref38_Valid at h
  refine sr (c (OpJ.assign (L rfl) (Opd.bool false)) rfl cn) ?_
  refine gh [(0, _)] [] hB rfl rfl (by rfl) ?_
  refine AWp.seq ?_
  refine sr (c (mv hN (q 0)) rfl (c (OpJ.val (v' := (i6 (a0.length : Int))) (by simp) (OpJ.lenD Try.underlying27 (L rfl) (q 5))) rfl (c (mv hN (Opd.int .i64 (0))) rfl cn))) ?_
  refine gh [(0, _), (5, _), (6, _), (7, _)] [] hB rfl rfl (by rfl) ?_
  refine AWp.block ?_
  obtain ⟨x64, hx65, h⟩ := bindS h
  refine lg (exchangepointref38_Valid_L0 a0) (fun s1 : Int => ([(0, (qe_api_Cell_4 a0)), (5, (qe_api_Cell_4 a0)), (6, (i6 (a0.length : Int))), (7, (i6 s1))] : EL)) (fun s1 : Int => ([] : OL)) (fun (x : (Unit) ⊕ (Unit)) e E' O' => match x with | (.inl _p) => e = .ret ∧ Mat B E' O' ([(2, (bo false))] : EL) ([] : OL) | (.inr _p) => e = .exit 0 ∧ Mat B E' O' ([(0, (qe_api_Cell_4 a0))] : EL) ([] : OL)) hx65 (mp [] _ _ hB) (fun s1 y h => ?_) (fun e E' O' hR => ?_)
  · unfold exchangepointref38_Valid_L0 at h
    refine sr (c (OpJ.lss (L rfl) (q 7) (q 6)) rfl cn) ?_
    refine gh [(0, _), (5, _), (6, _), (7, _), (8, _)] [] hB rfl rfl (by rfl) ?_
    refine AWp.seq ?_
    refine AWp.cond rfl (fun hg44 => ?_) (fun hg44 => ?_)
    · replace h := ite_t hg44 h
      refine AWp.skip ?_
      refine seqQ_n ?_
      refine AWp.seq ?_
      refine AWp.block ?_
      obtain ⟨x45, hx45, h⟩ := bindS h
      refine sr (c (mv hN (q 7)) rfl (c (OpJ.indexD Try.underlying27 tyS23 (idx_some hx45).1 (get_map e_api_Cell (idx_some hx45).2) (L rfl) (q 5) (q 7)) rfl (c (OpJ.loadD tyS23 (by rfl) (by rfl) (L rfl) (q 10)) rfl (cg (OpJ.alloc hB tyZ23 (nm := 1004) (by decide) (L rfl)) rfl (c (OpJ.assign (L rfl) (q 9)) rfl (cg (OpJ.storeB tyS23 (SetAt.here _ _) (by rfl) (by rfl) (by simp) rfl (q 4) (q 11)) rfl cn)))))) ?_
      refine gh [(0, _), (3, _), (4, _), (5, _), (6, _), (7, _)] [(1004, some _)] hB rfl rfl (by rfl) ?_
      refine AWp.seq ?_
      refine AWp.cut h (fun m54 : Bool => ([(0, (qe_api_Cell_4 a0)), (5, (qe_api_Cell_4 a0)), (6, (i6 (a0.length : Int))), (7, (i6 s1)), (55, (bo m54))] : EL)) (fun m54 : Bool => ([] : OL)) (fun m54 h E' O' hmat => ?_) (fun j55 hjj55 h => ?_)
      · refine seqQ_n ?_
        refine AWp.ghost hmat ?_
        refine AWp.cond rfl (fun hg56 => ?_) (fun hg56 => ?_)
        · replace h := ite_t hg56 h
          refine sr (c (OpJ.assign (L rfl) (Opd.bool false)) rfl cn) ?_
          refine gh [(2, _)] [] hB rfl rfl (by rfl) ?_
          refine AWp.ret ?_
          refine blkQ_r ?_
          refine seqQ_r ?_
          obtain rfl := Option.some.inj h
          exact ⟨(fun hc => by cases hc), rfl, (mp [] _ _ hB)⟩
        · replace h := ite_f hg56 h
          refine AWp.skip ?_
          refine blkQ_n ?_
          refine seqQ_n ?_
          refine rg (c (add6 (L rfl) (q 7) (Opd.int .i64 (1))) rfl (c (mv hN (q 56)) rfl cn)) ?_
          obtain rfl := Option.some.inj h
          exact ⟨rfl, (Mat.trans (mp [] [(0, (qe_api_Cell_4 a0)), (5, (qe_api_Cell_4 a0)), (6, (i6 (a0.length : Int))), (7, (i6 (w64 (s1 + (1 : Int)))))] [] hB) (mp [] _ _ hB))⟩
      · obtain ⟨r57, hr57, h⟩ := bindS h
        rcases Bool.eq_false_or_eq_true (!r57) with hg58 | hg58
        · replace h := ite_t hg58 h
          refine dr (c (ov (.ptr 1004 0 [0]) (fp hN Try.underlying23 0 tyS3 _ (q 4))) rfl (c (lb hN 23 _ _ tyS3 (ad _) (q 12)) rfl (cg (OpJ.callFn hB fnOk33 (exchangepointref38_asn_ac x45.fFrom r57 hr57) [] (by kernel_rfl) (L rfl) (by kernel_rfl) (OpdL.cons (q 13) OpdL.nil)) rfl (c (OpJ.not (L rfl) (q 14)) rfl (c (OpJ.val (v' := .d (.bool true)) (by rw [hg58]) (mv hN (q 15))) rfl (cg (OpJ.skipU (g := 16) (L rfl) (by rfl)) rfl (cg (OpJ.skipU (g := 16) (L rfl) (by rfl)) rfl (cg (OpJ.skipU (g := 16) (L rfl) (by rfl)) rfl (cg (OpJ.skipU (g := 16) (L rfl) (by rfl)) rfl (c (OpJ.pickT (L rfl) (q 16) (Opd.bool true)) rfl (c (mv hN (q 21)) rfl (cg (OpJ.skipU (g := 22) (L rfl) (by rfl)) rfl (cg (OpJ.skipU (g := 22) (L rfl) (by rfl)) rfl (cg (OpJ.skipU (g := 22) (L rfl) (by rfl)) rfl (c (OpJ.pickT (L rfl) (q 22) (Opd.bool true)) rfl (c (mv hN (q 26)) rfl (cg (OpJ.skipU (g := 27) (L rfl) (by rfl)) rfl (cg (OpJ.skipU (g := 27) (L rfl) (by rfl)) rfl (cg (OpJ.skipU (g := 27) (L rfl) (by rfl)) rfl (c (OpJ.pickT (L rfl) (q 27) (Opd.bool true)) rfl (c (mv hN (q 31)) rfl (cg (OpJ.skipU (g := 32) (L rfl) (by rfl)) rfl (cg (OpJ.skipU (g := 32) (L rfl) (by rfl)) rfl (cg (OpJ.skipU (g := 32) (L rfl) (by rfl)) rfl (c (OpJ.pickT (L rfl) (q 32) (Opd.bool true)) rfl (c (mv hN (q 36)) rfl (cg (OpJ.skipU (g := 37) (L rfl) (by rfl)) rfl (cg (OpJ.skipU (g := 37) (L rfl) (by rfl)) rfl (cg (OpJ.skipU (g := 37) (L rfl) (by rfl)) rfl (c (OpJ.pickT (L rfl) (q 37) (Opd.bool true)) rfl (c (mv hN (q 41)) rfl (cg (OpJ.skipU (g := 42) (L rfl) (by rfl)) rfl (cg (OpJ.skipU (g := 42) (L rfl) (by rfl)) rfl (cg (OpJ.skipU (g := 42) (L rfl) (by rfl)) rfl (cg (OpJ.skipV (g := 45) (L rfl) (by rfl)) rfl (cg (OpJ.skipV (g := 45) (L rfl) (by rfl)) rfl (cg (OpJ.skipV (g := 45) (L rfl) (by rfl)) rfl (cg (OpJ.skipV (g := 45) (L rfl) (by rfl)) rfl (cg (OpJ.skipV (g := 45) (L rfl) (by rfl)) rfl (cg (OpJ.skipV (g := 45) (L rfl) (by rfl)) rfl (cg (OpJ.skipV (g := 45) (L rfl) (by rfl)) rfl (cg (OpJ.skipV (g := 45) (L rfl) (by rfl)) rfl (cg (OpJ.skipU (g := 42) (L rfl) (by rfl)) rfl (c (OpJ.pickT (L rfl) (q 42) (Opd.bool true)) rfl cn)))))))))))))))))))))))))))))))))))))))))))) (by kernel_rfl) (by kernel_rfl) ?_
          exact hjj55 _ h _ _ (Mat.trans (mp [] [(0, (qe_api_Cell_4 a0)), (5, (qe_api_Cell_4 a0)), (6, (i6 (a0.length : Int))), (7, (i6 s1)), (55, (bo true))] [] hB) (mp [] _ _ hB))
        · replace h := ite_f hg58 h
          obtain ⟨r59, hr59, h⟩ := bindS h
          rcases Bool.eq_false_or_eq_true (((((!r59) || (decide (x45.fSamples < (1 : Int)))) || (decide ((1099511627776 : Int) < x45.fSamples))) || (decide (x45.fBytes < (0 : Int)))) || (decide ((1125899906842624 : Int) < x45.fBytes))) with hg60 | hg60
          · replace h := ite_t hg60 h
            refine dr (c (ov (.ptr 1004 0 [0]) (fp hN Try.underlying23 0 tyS3 _ (q 4))) rfl (c (lb hN 23 _ _ tyS3 (ad _) (q 12)) rfl (cg (OpJ.callFn hB fnOk33 (exchangepointref38_asn_ac x45.fFrom r57 hr57) [] (by kernel_rfl) (L rfl) (by kernel_rfl) (OpdL.cons (q 13) OpdL.nil)) rfl (c (OpJ.not (L rfl) (q 14)) rfl (c (OpJ.val (v' := .d (.bool false)) (by rw [hg58]) (mv hN (q 15))) rfl (c (OpJ.guarded (g := 16) (by rfl) (ov (.ptr 1004 1 [1]) (fp hN Try.underlying23 1 tyS3 _ (q 4)))) rfl (c (OpJ.guarded (g := 16) (by rfl) (lb hN 23 _ _ tyS3 (ad _) (q 17))) rfl (cg (OpJ.guarded (g := 16) (by rfl) (OpJ.callFn hB fnOk33 (exchangepointref38_asn_ac x45.fTo r59 hr59) [] (by kernel_rfl) (L rfl) (by kernel_rfl) (OpdL.cons (q 18) OpdL.nil))) rfl (c (OpJ.guarded (g := 16) (by rfl) (OpJ.not (L rfl) (q 19))) rfl (c (OpJ.pickF (L rfl) (q 16) (q 20)) rfl (c (mv hN (q 21)) rfl (c (oq hN 22 (ov (.ptr 1004 2 [2]) (fp hN Try.underlying23 2 tyS3 _ (q 4))) (OptL.keep (by rfl) OptL.nil) (GuardV.plain _)) rfl (c (oq hN 22 (lb hN 23 _ _ tyS3 (ad _) (q 23)) (OptL.opt OptL.nil) (GuardV.plain _)) rfl (c (oq hN 22 (OpJ.lss (L rfl) (q 24) (Opd.int .i64 (1))) (OptL.opt OptL.nil) (GuardV.plain _)) rfl (c (OpJ.pickOr rfl (L rfl) (q 22) (q 25)) rfl (c (mv hN (q 26)) rfl (c (oq hN 27 (ov (.ptr 1004 2 [2]) (fp hN Try.underlying23 2 tyS3 _ (q 4))) (OptL.keep (by rfl) OptL.nil) (GuardV.plain _)) rfl (c (oq hN 27 (lb hN 23 _ _ tyS3 (ad _) (q 28)) (OptL.opt OptL.nil) (GuardV.plain _)) rfl (c (oq hN 27 (OpJ.gtr (L rfl) (q 29) (Opd.int .i64 (1099511627776))) (OptL.opt OptL.nil) (GuardV.plain _)) rfl (c (OpJ.pickOr rfl (L rfl) (q 27) (q 30)) rfl (c (mv hN (q 31)) rfl (c (oq hN 32 (ov (.ptr 1004 3 [3]) (fp hN Try.underlying23 3 tyS3 _ (q 4))) (OptL.keep (by rfl) OptL.nil) (GuardV.plain _)) rfl (c (oq hN 32 (lb hN 23 _ _ tyS3 (ad _) (q 33)) (OptL.opt OptL.nil) (GuardV.plain _)) rfl (c (oq hN 32 (OpJ.lss (L rfl) (q 34) (Opd.int .i64 (0))) (OptL.opt OptL.nil) (GuardV.plain _)) rfl (c (OpJ.pickOr rfl (L rfl) (q 32) (q 35)) rfl (c (mv hN (q 36)) rfl (c (oq hN 37 (ov (.ptr 1004 3 [3]) (fp hN Try.underlying23 3 tyS3 _ (q 4))) (OptL.keep (by rfl) OptL.nil) (GuardV.plain _)) rfl (c (oq hN 37 (lb hN 23 _ _ tyS3 (ad _) (q 38)) (OptL.opt OptL.nil) (GuardV.plain _)) rfl (c (oq hN 37 (OpJ.gtr (L rfl) (q 39) (Opd.int .i64 (1125899906842624))) (OptL.opt OptL.nil) (GuardV.plain _)) rfl (c (OpJ.pickOr rfl (L rfl) (q 37) (q 40)) rfl (c (OpJ.val (v' := .d (.bool true)) (by rw [hg60]) (mv hN (q 41))) rfl (cg (OpJ.skipU (g := 42) (L rfl) (by rfl)) rfl (cg (OpJ.skipU (g := 42) (L rfl) (by rfl)) rfl (cg (OpJ.skipU (g := 42) (L rfl) (by rfl)) rfl (cg (OpJ.skipV (g := 45) (L rfl) (by rfl)) rfl (cg (OpJ.skipV (g := 45) (L rfl) (by rfl)) rfl (cg (OpJ.skipV (g := 45) (L rfl) (by rfl)) rfl (cg (OpJ.skipV (g := 45) (L rfl) (by rfl)) rfl (cg (OpJ.skipV (g := 45) (L rfl) (by rfl)) rfl (cg (OpJ.skipV (g := 45) (L rfl) (by rfl)) rfl (cg (OpJ.skipV (g := 45) (L rfl) (by rfl)) rfl (cg (OpJ.skipV (g := 45) (L rfl) (by rfl)) rfl (cg (OpJ.skipU (g := 42) (L rfl) (by rfl)) rfl (c (OpJ.pickT (L rfl) (q 42) (Opd.bool true)) rfl cn)))))))))))))))))))))))))))))))))))))))))))) (by kernel_rfl) (by kernel_rfl) ?_
            exact hjj55 _ h _ _ (Mat.trans (mp [] [(0, (qe_api_Cell_4 a0)), (5, (qe_api_Cell_4 a0)), (6, (i6 (a0.length : Int))), (7, (i6 s1)), (55, (bo true))] [] hB) (mp [] _ _ hB))
          · replace h := ite_f hg60 h
            rcases Bool.eq_false_or_eq_true (decide ((0 : Int) < s1)) with hg61 | hg61
            · replace h := ite_t hg61 h
              obtain ⟨x62, hx62, h⟩ := bindS h
              obtain ⟨r63, hr63, h⟩ := bindS h
              refine dr (c (ov (.ptr 1004 0 [0]) (fp hN Try.underlying23 0 tyS3 _ (q 4))) rfl (c (lb hN 23 _ _ tyS3 (ad _) (q 12)) rfl (cg (OpJ.callFn hB fnOk33 (exchangepointref38_asn_ac x45.fFrom r57 hr57) [] (by kernel_rfl) (L rfl) (by kernel_rfl) (OpdL.cons (q 13) OpdL.nil)) rfl (c (OpJ.not (L rfl) (q 14)) rfl (c (OpJ.val (v' := .d (.bool false)) (by rw [hg58]) (mv hN (q 15))) rfl (c (OpJ.guarded (g := 16) (by rfl) (ov (.ptr 1004 1 [1]) (fp hN Try.underlying23 1 tyS3 _ (q 4)))) rfl (c (OpJ.guarded (g := 16) (by rfl) (lb hN 23 _ _ tyS3 (ad _) (q 17))) rfl (cg (OpJ.guarded (g := 16) (by rfl) (OpJ.callFn hB fnOk33 (exchangepointref38_asn_ac x45.fTo r59 hr59) [] (by kernel_rfl) (L rfl) (by kernel_rfl) (OpdL.cons (q 18) OpdL.nil))) rfl (c (OpJ.guarded (g := 16) (by rfl) (OpJ.not (L rfl) (q 19))) rfl (c (OpJ.pickF (L rfl) (q 16) (q 20)) rfl (c (mv hN (q 21)) rfl (c (oq hN 22 (ov (.ptr 1004 2 [2]) (fp hN Try.underlying23 2 tyS3 _ (q 4))) (OptL.keep (by rfl) OptL.nil) (GuardV.plain _)) rfl (c (oq hN 22 (lb hN 23 _ _ tyS3 (ad _) (q 23)) (OptL.opt OptL.nil) (GuardV.plain _)) rfl (c (oq hN 22 (OpJ.lss (L rfl) (q 24) (Opd.int .i64 (1))) (OptL.opt OptL.nil) (GuardV.plain _)) rfl (c (OpJ.pickOr rfl (L rfl) (q 22) (q 25)) rfl (c (mv hN (q 26)) rfl (c (oq hN 27 (ov (.ptr 1004 2 [2]) (fp hN Try.underlying23 2 tyS3 _ (q 4))) (OptL.keep (by rfl) OptL.nil) (GuardV.plain _)) rfl (c (oq hN 27 (lb hN 23 _ _ tyS3 (ad _) (q 28)) (OptL.opt OptL.nil) (GuardV.plain _)) rfl (c (oq hN 27 (OpJ.gtr (L rfl) (q 29) (Opd.int .i64 (1099511627776))) (OptL.opt OptL.nil) (GuardV.plain _)) rfl (c (OpJ.pickOr rfl (L rfl) (q 27) (q 30)) rfl (c (mv hN (q 31)) rfl (c (oq hN 32 (ov (.ptr 1004 3 [3]) (fp hN Try.underlying23 3 tyS3 _ (q 4))) (OptL.keep (by rfl) OptL.nil) (GuardV.plain _)) rfl (c (oq hN 32 (lb hN 23 _ _ tyS3 (ad _) (q 33)) (OptL.opt OptL.nil) (GuardV.plain _)) rfl (c (oq hN 32 (OpJ.lss (L rfl) (q 34) (Opd.int .i64 (0))) (OptL.opt OptL.nil) (GuardV.plain _)) rfl (c (OpJ.pickOr rfl (L rfl) (q 32) (q 35)) rfl (c (mv hN (q 36)) rfl (c (oq hN 37 (ov (.ptr 1004 3 [3]) (fp hN Try.underlying23 3 tyS3 _ (q 4))) (OptL.keep (by rfl) OptL.nil) (GuardV.plain _)) rfl (c (oq hN 37 (lb hN 23 _ _ tyS3 (ad _) (q 38)) (OptL.opt OptL.nil) (GuardV.plain _)) rfl (c (oq hN 37 (OpJ.gtr (L rfl) (q 39) (Opd.int .i64 (1125899906842624))) (OptL.opt OptL.nil) (GuardV.plain _)) rfl (c (OpJ.pickOr rfl (L rfl) (q 37) (q 40)) rfl (c (OpJ.val (v' := .d (.bool false)) (by rw [hg60]) (mv hN (q 41))) rfl (c (OpJ.guarded (g := 42) (by rfl) (mv hN (q 3))) rfl (c (OpJ.guarded (g := 42) (by rfl) (OpJ.gtr (L rfl) (q 43) (Opd.int .i64 (0)))) rfl (c (OpJ.guarded (g := 42) (by rfl) (OpJ.val (v' := .d (.bool true)) (by rw [hg61]) (mv hN (q 44)))) rfl (c (OpJ.guarded (g := 45) (by rfl) (mv hN (q 0))) rfl (c (OpJ.guarded (g := 45) (by rfl) (mv hN (q 3))) rfl (c (OpJ.guarded (g := 45) (by rfl) (sub6 (L rfl) (q 47) (Opd.int .i64 (1)))) rfl (c (OpJ.guarded (g := 45) (by rfl) (OpJ.indexD Try.underlying27 tyS23 (idx_some hx62).1 (get_map e_api_Cell (idx_some hx62).2) (L rfl) (q 46) (q 48))) rfl (c (OpJ.guarded (g := 45) (by rfl) (OpJ.loadD tyS23 (by rfl) (by rfl) (L rfl) (q 49))) rfl (c (OpJ.guarded (g := 45) (by rfl) (lb hN 23 _ _ tyS23 (At.here _) (q 4))) rfl (cg (OpJ.guarded (g := 45) (by rfl) (OpJ.callFn hB fnOk40 (exchangepointref38_less_ac x62 x45 r63 hr63) [] (by kernel_rfl) (L rfl) (by kernel_rfl) (OpdL.cons (q 50) (OpdL.cons (q 51) OpdL.nil)))) rfl (c (OpJ.guarded (g := 45) (by rfl) (OpJ.not (L rfl) (q 52))) rfl (c (OpJ.guarded (g := 42) (by rfl) (OpJ.pickT (L rfl) (q 45) (q 53))) rfl (c (OpJ.pickF (L rfl) (q 42) (q 54)) rfl cn)))))))))))))))))))))))))))))))))))))))))))) (by kernel_rfl) (by kernel_rfl) ?_
              exact hjj55 _ h _ _ (Mat.trans (mp [] [(0, (qe_api_Cell_4 a0)), (5, (qe_api_Cell_4 a0)), (6, (i6 (a0.length : Int))), (7, (i6 s1)), (55, (bo (!r63)))] [] hB) (mp [] _ _ hB))
            · replace h := ite_f hg61 h
              refine dr (c (ov (.ptr 1004 0 [0]) (fp hN Try.underlying23 0 tyS3 _ (q 4))) rfl (c (lb hN 23 _ _ tyS3 (ad _) (q 12)) rfl (cg (OpJ.callFn hB fnOk33 (exchangepointref38_asn_ac x45.fFrom r57 hr57) [] (by kernel_rfl) (L rfl) (by kernel_rfl) (OpdL.cons (q 13) OpdL.nil)) rfl (c (OpJ.not (L rfl) (q 14)) rfl (c (OpJ.val (v' := .d (.bool false)) (by rw [hg58]) (mv hN (q 15))) rfl (c (OpJ.guarded (g := 16) (by rfl) (ov (.ptr 1004 1 [1]) (fp hN Try.underlying23 1 tyS3 _ (q 4)))) rfl (c (OpJ.guarded (g := 16) (by rfl) (lb hN 23 _ _ tyS3 (ad _) (q 17))) rfl (cg (OpJ.guarded (g := 16) (by rfl) (OpJ.callFn hB fnOk33 (exchangepointref38_asn_ac x45.fTo r59 hr59) [] (by kernel_rfl) (L rfl) (by kernel_rfl) (OpdL.cons (q 18) OpdL.nil))) rfl (c (OpJ.guarded (g := 16) (by rfl) (OpJ.not (L rfl) (q 19))) rfl (c (OpJ.pickF (L rfl) (q 16) (q 20)) rfl (c (mv hN (q 21)) rfl (c (oq hN 22 (ov (.ptr 1004 2 [2]) (fp hN Try.underlying23 2 tyS3 _ (q 4))) (OptL.keep (by rfl) OptL.nil) (GuardV.plain _)) rfl (c (oq hN 22 (lb hN 23 _ _ tyS3 (ad _) (q 23)) (OptL.opt OptL.nil) (GuardV.plain _)) rfl (c (oq hN 22 (OpJ.lss (L rfl) (q 24) (Opd.int .i64 (1))) (OptL.opt OptL.nil) (GuardV.plain _)) rfl (c (OpJ.pickOr rfl (L rfl) (q 22) (q 25)) rfl (c (mv hN (q 26)) rfl (c (oq hN 27 (ov (.ptr 1004 2 [2]) (fp hN Try.underlying23 2 tyS3 _ (q 4))) (OptL.keep (by rfl) OptL.nil) (GuardV.plain _)) rfl (c (oq hN 27 (lb hN 23 _ _ tyS3 (ad _) (q 28)) (OptL.opt OptL.nil) (GuardV.plain _)) rfl (c (oq hN 27 (OpJ.gtr (L rfl) (q 29) (Opd.int .i64 (1099511627776))) (OptL.opt OptL.nil) (GuardV.plain _)) rfl (c (OpJ.pickOr rfl (L rfl) (q 27) (q 30)) rfl (c (mv hN (q 31)) rfl (c (oq hN 32 (ov (.ptr 1004 3 [3]) (fp hN Try.underlying23 3 tyS3 _ (q 4))) (OptL.keep (by rfl) OptL.nil) (GuardV.plain _)) rfl (c (oq hN 32 (lb hN 23 _ _ tyS3 (ad _) (q 33)) (OptL.opt OptL.nil) (GuardV.plain _)) rfl (c (oq hN 32 (OpJ.lss (L rfl) (q 34) (Opd.int .i64 (0))) (OptL.opt OptL.nil) (GuardV.plain _)) rfl (c (OpJ.pickOr rfl (L rfl) (q 32) (q 35)) rfl (c (mv hN (q 36)) rfl (c (oq hN 37 (ov (.ptr 1004 3 [3]) (fp hN Try.underlying23 3 tyS3 _ (q 4))) (OptL.keep (by rfl) OptL.nil) (GuardV.plain _)) rfl (c (oq hN 37 (lb hN 23 _ _ tyS3 (ad _) (q 38)) (OptL.opt OptL.nil) (GuardV.plain _)) rfl (c (oq hN 37 (OpJ.gtr (L rfl) (q 39) (Opd.int .i64 (1125899906842624))) (OptL.opt OptL.nil) (GuardV.plain _)) rfl (c (OpJ.pickOr rfl (L rfl) (q 37) (q 40)) rfl (c (OpJ.val (v' := .d (.bool false)) (by rw [hg60]) (mv hN (q 41))) rfl (c (OpJ.guarded (g := 42) (by rfl) (mv hN (q 3))) rfl (c (OpJ.guarded (g := 42) (by rfl) (OpJ.gtr (L rfl) (q 43) (Opd.int .i64 (0)))) rfl (c (OpJ.guarded (g := 42) (by rfl) (OpJ.val (v' := .d (.bool false)) (by rw [hg61]) (mv hN (q 44)))) rfl (cg (OpJ.skipU (g := 45) (L rfl) (by rfl)) rfl (cg (OpJ.skipU (g := 45) (L rfl) (by rfl)) rfl (cg (OpJ.skipU (g := 45) (L rfl) (by rfl)) rfl (cg (OpJ.skipU (g := 45) (L rfl) (by rfl)) rfl (cg (OpJ.skipU (g := 45) (L rfl) (by rfl)) rfl (cg (OpJ.skipU (g := 45) (L rfl) (by rfl)) rfl (cg (OpJ.skipU (g := 45) (L rfl) (by rfl)) rfl (cg (OpJ.skipU (g := 45) (L rfl) (by rfl)) rfl (c (OpJ.guarded (g := 42) (by rfl) (OpJ.pickF (L rfl) (q 45) (Opd.bool false))) rfl (c (OpJ.pickF (L rfl) (q 42) (q 54)) rfl cn)))))))))))))))))))))))))))))))))))))))))))) (by kernel_rfl) (by kernel_rfl) ?_
              exact hjj55 _ h _ _ (Mat.trans (mp [] [(0, (qe_api_Cell_4 a0)), (5, (qe_api_Cell_4 a0)), (6, (i6 (a0.length : Int))), (7, (i6 s1)), (55, (bo false))] [] hB) (mp [] _ _ hB))
    · replace h := ite_f hg44 h
      refine AWp.exit ?_
      refine seqQ_e ?_
      obtain rfl := Option.some.inj h
      exact ⟨(fun hc => by cases hc), rfl, (mp [] _ _ hB)⟩
  · rcases x64 with _ | _
    · obtain ⟨rfl, hmat⟩ := hR
      refine blkQ_r ?_
      refine seqQ_r ?_
      obtain rfl := Option.some.inj h
      exact ⟨.inl rfl, _, _, (Mat.trans hmat (mp [] [(2, (bo false))] [] hB)), [(bo false)], (Res.tmp (by rfl) (by rfl) Res.nil), rfl, by rfl, by rfl, by rfl⟩
    · obtain ⟨rfl, hmat⟩ := hR
      refine blkQ_hit ?_
      refine seqQ_n ?_
      refine AWp.ghost hmat ?_
      refine sr (c (mv hN (q 0)) rfl (c (OpJ.val (v' := (i6 (a0.length : Int))) (by simp) (OpJ.lenD Try.underlying27 (L rfl) (q 57))) rfl (c (OpJ.leq (L rfl) (q 58) (Opd.int .i64 (1024))) rfl (c (OpJ.assign (L rfl) (q 59)) rfl cn)))) ?_
      refine gh [(2, _)] [] hB rfl rfl (by rfl) ?_
      refine AWp.ret ?_
      obtain rfl := Option.some.inj h
      exact ⟨.inl rfl, _, _, (kp [(2, _)] [] hB rfl rfl (by rfl)), [(bo (decide ((a0.length : Int) ≤ (1024 : Int))))], (Res.tmp (by rfl) (by rfl) Res.nil), rfl, by rfl, by rfl, by rfl⟩

noncomputable def matrix_Add_L1 (x43 : (List api_Cell)) (s44 : Int × (List (matrix_pair × api_Cell))) : Option ((((List (matrix_pair × api_Cell)))) ⊕ (Int × (List (matrix_pair × api_Cell)))) :=
  (if (decide (s44.1 < (x43.length : Int))) = true then
  (idx x43 s44.1).bind fun x53 =>
  (matrix_put s44.2 x53).bind fun r54 =>
  some (.inr ((w64 (s44.1 + (1 : Int))), r54))
  else
  some (.inl s44.2))
noncomputable def matrix_Add_L0 (a0 : (List api_Cell)) (a1 : (List api_Cell)) (s8 : Int × (List (matrix_pair × api_Cell))) : Option ((((List (matrix_pair × api_Cell)))) ⊕ (Int × (List (matrix_pair × api_Cell)))) :=
  (if (decide (s8.1 < (([a0, a1] : List (List api_Cell)).length : Int))) = true then
  (idx ([a0, a1] : List (List api_Cell)) s8.1).bind fun x43 =>
  (loop (matrix_Add_L1 x43) ((0 : Int), s8.2)).bind fun p51 =>
  some (.inr ((w64 (s8.1 + (1 : Int))), p51))
  else
  some (.inl s8.2))
noncomputable def matrix_Add (a0 : (List api_Cell)) (a1 : (List api_Cell)) : Option ((List api_Cell) × Int) :=
  jn (fun m5 : Bool =>
  (if m5 = true then
  some (([] : List api_Cell), (1 : Int))
  else
  (loop (matrix_Add_L0 a0 a1) ((0 : Int), ([] : List (matrix_pair × api_Cell)))).bind fun p41 =>
  (matrix_listed p41).bind fun r59 =>
  (matrix_Valid r59).bind fun r60 =>
  (if (!r60) = true then
  some (([] : List api_Cell), (3 : Int))
  else
  some (r59, (0 : Int))))) (fun j6 =>
  (matrix_Valid a0).bind fun r62 =>
  (if (!r62) = true then
  j6 true
  else
  (matrix_Valid a1).bind fun r64 =>
  j6 (!r64)))
set_option maxHeartbeats 4000000 in
set_option maxRecDepth 100000 in
theorem matrix_Add_ac (a0 : (List api_Cell)) (a1 : (List api_Cell)) (r : (List api_Cell) × Int) (h : matrix_Add a0 a1 = some r) : AC Try.prog 19 [(.d (.list 4 (a0.map e_api_Cell))), (.d (.list 4 (a1.map e_api_Cell)))] [] (.tup [(.d (.list 4 (r.1.map e_api_Cell))), (.d (.int .i64 r.2))]) [] := by
  refine AC.of_code2 Try.func19 rfl rfl (Nat.le_of_ble_eq_true (by rfl)) fun B hB hN => ?_
  have L {d : Nat} (h : Nat.blt d Try.f19.ntmps = true) : d < B.N := ltN hN h
  delta matrix_Add at h
  refine sr (c (OpJ.assign (L rfl) Opd.nils) rfl (c (OpJ.assign (L rfl) (Opd.int .i64 (0))) rfl cn)) ?_
  refine gh [(0, _), (1, _)] [] hB rfl rfl (by rfl) ?_
  refine AWp.seq ?_
  refine AWp.seq ?_
  refine AWp.cut h (fun m5 : Bool => ([(0, (qe_api_Cell_4 a0)), (1, (qe_api_Cell_4 a1)), (19, (bo m5))] : EL)) (fun m5 : Bool => ([] : OL)) (fun m5 h E' O' hmat => ?_) (fun j6 hjj6 h => ?_)
  · refine seqQ_n ?_
    refine AWp.ghost hmat ?_
    refine AWp.cond rfl (fun hg7 => ?_) (fun hg7 => ?_)
    · replace h := ite_t hg7 h
      refine sr (c (OpJ.assign (L rfl) Opd.nils) rfl (c (OpJ.assign (L rfl) (Opd.int .i64 (1))) rfl cn)) ?_
      refine gh [(4, _), (5, _)] [] hB rfl rfl (by rfl) ?_
      refine AWp.ret ?_
      refine seqQ_r ?_
      obtain rfl := Option.some.inj h
      exact ⟨.inl rfl, _, _, (Mat.trans (Mat.coeP (Ts := [(4, (qe_api_Cell_4 ([] : List api_Cell)))]) (Bs := []) (TwT.cons (x := .nils) (by rfl) (Tw.leaf ⟨_, (Co.nils 4), rfl⟩) TwT.nil) TwB.nil) (mp [] [(4, (qe_api_Cell_4 ([] : List api_Cell))), (5, (i6 1))] [] hB)), [(qe_api_Cell_4 ([] : List api_Cell)), (i6 1)], (Res.tmp (by rfl) (by rfl) (Res.tmp (by rfl) (by rfl) Res.nil)), rfl, by rfl, by rfl, by rfl⟩
    · replace h := ite_f hg7 h
      refine AWp.skip ?_
      refine seqQ_n ?_
      refine sr (cg (OpJ.mkmap hB (nm := 1020) (by decide) (L rfl)) rfl (c (OpJ.assign (L rfl) (q 20)) rfl cn)) ?_
      refine gh [(0, _), (1, _), (6, _)] [(1020, some _)] hB rfl rfl (by rfl) ?_
      refine AWp.seq ?_
      refine sr (c (mv hN (q 0)) rfl (c (mv hN (q 1)) rfl (c (OpJ.buildSlice Try.underlying45 tyS27 tyZD27 (by rfl) (by decide) (by decide) (Opds.cons (q 21) (Opds.cons (q 22) Opds.nil)) (by kernel_rfl) (es := ([(.list 4 (a0.map e_api_Cell)), (.list 4 (a1.map e_api_Cell))] : List D)) (by rfl) (by rfl) (by kernel_rfl) (by simp) (L rfl)) rfl (c (OpJ.val (v' := (i6 (([a0, a1] : List (List api_Cell)).length : Int))) (by simp) (OpJ.lenD Try.underlying45 (L rfl) (q 23))) rfl (c (mv hN (Opd.int .i64 (0))) rfl cn))))) ?_
      refine gh [(6, _), (23, _), (24, _), (25, _)] [(1020, some _)] hB rfl rfl (by rfl) ?_
      refine AWp.block ?_
      obtain ⟨p41, hx58, h⟩ := bindS h
      refine lg (matrix_Add_L0 a0 a1) (fun s8 : Int × (List (matrix_pair × api_Cell)) => ([(6, (.mref 1020)), (23, (.d (.list 1 (([a0, a1] : List (List api_Cell)).map e_LeapiCell)))), (24, (i6 (([a0, a1] : List (List api_Cell)).length : Int))), (25, (i6 s8.1))] : EL)) (fun s8 : Int × (List (matrix_pair × api_Cell)) => ([(1020, some (.blk (mapB (mpairs e_matrix_pair e_api_Cell s8.2))))] : OL)) (fun (p41 : ((List (matrix_pair × api_Cell)))) e E' O' => e = .exit 0 ∧ Mat B E' O' ([(6, (.mref 1020))] : EL) ([(1020, some (.blk (mapB (mpairs e_matrix_pair e_api_Cell p41))))] : OL)) hx58 (mp [] _ _ hB) (fun s8 y h => ?_) (fun e E' O' hR => ?_)
      · unfold matrix_Add_L0 at h
        refine sr (c (OpJ.lss (L rfl) (q 25) (q 24)) rfl cn) ?_
        refine gh [(6, _), (23, _), (24, _), (25, _), (26, _)] [(1020, some _)] hB rfl rfl (by rfl) ?_
        refine AWp.seq ?_
        refine AWp.cond rfl (fun hg42 => ?_) (fun hg42 => ?_)
        · replace h := ite_t hg42 h
          refine AWp.skip ?_
          refine seqQ_n ?_
          refine AWp.seq ?_
          refine AWp.block ?_
          obtain ⟨x43, hx43, h⟩ := bindS h
          refine sr (c (OpJ.indexD Try.underlying45 tyS27 (idx_some hx43).1 (get_map e_LeapiCell (idx_some hx43).2) (L rfl) (q 23) (q 25)) rfl (c (OpJ.loadD tyS27 (by rfl) (by rfl) (L rfl) (q 27)) rfl (c (OpJ.assign (L rfl) (q 28)) rfl cn))) ?_
          refine gh [(6, _), (8, _), (23, _), (24, _), (25, _)] [(1020, some _)] hB rfl rfl (by rfl) ?_
          refine sr (c (mv hN (q 8)) rfl (c (OpJ.val (v' := (i6 (x43.length : Int))) (by simp) (OpJ.lenD Try.underlying27 (L rfl) (q 29))) rfl (c (mv hN (Opd.int .i64 (0))) rfl cn))) ?_
          refine gh [(6, _), (23, _), (24, _), (25, _), (29, _), (30, _), (31, _)] [(1020, some _)] hB rfl rfl (by rfl) ?_
          refine AWp.block ?_
          obtain ⟨p51, hx56, h⟩ := bindS h
          refine lg (matrix_Add_L1 x43) (fun s44 : Int × (List (matrix_pair × api_Cell)) => ([(6, (.mref 1020)), (23, (.d (.list 1 (([a0, a1] : List (List api_Cell)).map e_LeapiCell)))), (24, (i6 (([a0, a1] : List (List api_Cell)).length : Int))), (25, (i6 s8.1)), (29, (qe_api_Cell_4 x43)), (30, (i6 (x43.length : Int))), (31, (i6 s44.1))] : EL)) (fun s44 : Int × (List (matrix_pair × api_Cell)) => ([(1020, some (.blk (mapB (mpairs e_matrix_pair e_api_Cell s44.2))))] : OL)) (fun (p51 : ((List (matrix_pair × api_Cell)))) e E' O' => e = .exit 2 ∧ Mat B E' O' ([(6, (.mref 1020)), (23, (.d (.list 1 (([a0, a1] : List (List api_Cell)).map e_LeapiCell)))), (24, (i6 (([a0, a1] : List (List api_Cell)).length : Int))), (25, (i6 s8.1))] : EL) ([(1020, some (.blk (mapB (mpairs e_matrix_pair e_api_Cell p51))))] : OL)) hx56 (mp [] _ _ hB) (fun s44 y h => ?_) (fun e E' O' hR => ?_)
          · unfold matrix_Add_L1 at h
            refine sr (c (OpJ.lss (L rfl) (q 31) (q 30)) rfl cn) ?_
            refine gh [(6, _), (23, _), (24, _), (25, _), (29, _), (30, _), (31, _), (32, _)] [(1020, some _)] hB rfl rfl (by rfl) ?_
            refine AWp.seq ?_
            refine AWp.cond rfl (fun hg52 => ?_) (fun hg52 => ?_)
            · replace h := ite_t hg52 h
              refine AWp.skip ?_
              refine seqQ_n ?_
              refine AWp.seq ?_
              refine AWp.block ?_
              obtain ⟨x53, hx53, h⟩ := bindS h
              refine sr (c (OpJ.indexD Try.underlying27 tyS23 (idx_some hx53).1 (get_map e_api_Cell (idx_some hx53).2) (L rfl) (q 29) (q 31)) rfl (c (OpJ.loadD tyS23 (by rfl) (by rfl) (L rfl) (q 33)) rfl (cg (OpJ.alloc hB tyZ23 (nm := 1010) (by decide) (L rfl)) rfl (cg (OpJ.storeB tyS23 (SetAt.here _ _) (by rfl) (by rfl) (by simp) rfl (q 10) (q 34)) rfl cn)))) ?_
              refine gh [(6, _), (10, _), (23, _), (24, _), (25, _), (29, _), (30, _), (31, _)] [(1010, some _), (1020, some _)] hB rfl rfl (by rfl) ?_
              obtain ⟨r54, hr54, h⟩ := bindS h
              refine AWp.region (oc (mv hN (ot 6 (.mref 1020)))
                (oc (lb hN 23 (.d (e_api_Cell x53)) (.d (e_api_Cell x53)) tyS23 (At.here _) (ot 10 (.ptr 1010 0 [])))
                (oc (OpJ.callFn hB fnOk37 (matrix_put_ac s44.2 x53 r54 hr54) [(0, 1020)] (by kernel_rfl) (L rfl) (by kernel_rfl) (OpdL.cons (ot 35 (.mref 1020)) (OpdL.cons (ot 36 (.d (e_api_Cell x53))) OpdL.nil)))
                (OpJs.nil)))) (by rfl) (by rfl) ?_
              refine blkQ_n ?_
              refine seqQ_n ?_
              refine AWp.ghost (mp [] [(6, (.mref 1020)), (23, (.d (.list 1 (([a0, a1] : List (List api_Cell)).map e_LeapiCell)))), (24, (i6 (([a0, a1] : List (List api_Cell)).length : Int))), (25, (i6 s8.1)), (29, (qe_api_Cell_4 x43)), (30, (i6 (x43.length : Int))), (31, (i6 s44.1))] [(1020, some (.blk (mapB (mpairs e_matrix_pair e_api_Cell r54))))] hB) ?_
              refine rg (c (add6 (L rfl) (q 31) (Opd.int .i64 (1))) rfl (c (mv hN (q 38)) rfl cn)) ?_
              obtain rfl := Option.some.inj h
              exact ⟨rfl, (Mat.trans (mp [] [(6, (.mref 1020)), (23, (.d (.list 1 (([a0, a1] : List (List api_Cell)).map e_LeapiCell)))), (24, (i6 (([a0, a1] : List (List api_Cell)).length : Int))), (25, (i6 s8.1)), (29, (qe_api_Cell_4 x43)), (30, (i6 (x43.length : Int))), (31, (i6 (w64 (s44.1 + (1 : Int)))))] [(1020, some (.blk (mapB (mpairs e_matrix_pair e_api_Cell r54))))] hB) (mp [] _ _ hB))⟩
            · replace h := ite_f hg52 h
              refine AWp.exit ?_
              refine seqQ_e ?_
              obtain rfl := Option.some.inj h
              exact ⟨(fun hc => by cases hc), rfl, (mp [] _ _ hB)⟩
          · obtain ⟨rfl, hmat⟩ := hR
            refine blkQ_hit ?_
            refine blkQ_n ?_
            refine seqQ_n ?_
            refine AWp.ghost hmat ?_
            refine rg (c (add6 (L rfl) (q 25) (Opd.int .i64 (1))) rfl (c (mv hN (q 39)) rfl cn)) ?_
            obtain rfl := Option.some.inj h
            exact ⟨rfl, (Mat.trans (mp [] [(6, (.mref 1020)), (23, (.d (.list 1 (([a0, a1] : List (List api_Cell)).map e_LeapiCell)))), (24, (i6 (([a0, a1] : List (List api_Cell)).length : Int))), (25, (i6 (w64 (s8.1 + (1 : Int)))))] [(1020, some (.blk (mapB (mpairs e_matrix_pair e_api_Cell p51))))] hB) (mp [] _ _ hB))⟩
        · replace h := ite_f hg42 h
          refine AWp.exit ?_
          refine seqQ_e ?_
          obtain rfl := Option.some.inj h
          exact ⟨(fun hc => by cases hc), rfl, (mp [] _ _ hB)⟩
      · obtain ⟨rfl, hmat⟩ := hR
        refine blkQ_hit ?_
        refine seqQ_n ?_
        refine AWp.ghost hmat ?_
        refine AWp.seq ?_
        obtain ⟨r59, hr59, h⟩ := bindS h
        refine AWp.region (oc (mv hN (ot 6 (.mref 1020)))
          (oc (OpJ.callFn hB fnOk38 (matrix_listed_ac p41 r59 hr59) [(0, 1020)] (by kernel_rfl) (L rfl) (by kernel_rfl) (OpdL.cons (ot 40 (.mref 1020)) OpdL.nil))
          (oc (OpJ.assign (L rfl) (ot 41 (qe_api_Cell_4 r59)))
          (OpJs.nil)))) (by rfl) (by rfl) ?_
        refine seqQ_n ?_
        refine AWp.ghost (mp [] [(11, (qe_api_Cell_4 r59))] [] hB) ?_
        refine AWp.seq ?_
        obtain ⟨r60, hr60, h⟩ := bindS h
        refine sr (c (mv hN (q 11)) rfl (cg (OpJ.callFn hB fnOk17 (matrix_Valid_ac r59 r60 hr60) [] (by kernel_rfl) (L rfl) (by kernel_rfl) (OpdL.cons (q 42) OpdL.nil)) rfl (c (OpJ.not (L rfl) (q 43)) rfl cn))) ?_
        refine gh [(11, _), (44, _)] [] hB rfl rfl (by rfl) ?_
        refine AWp.cond rfl (fun hg61 => ?_) (fun hg61 => ?_)
        · replace h := ite_t hg61 h
          refine sr (c (OpJ.assign (L rfl) Opd.nils) rfl (c (OpJ.assign (L rfl) (Opd.int .i64 (3))) rfl cn)) ?_
          refine gh [(4, _), (5, _)] [] hB rfl rfl (by rfl) ?_
          refine AWp.ret ?_
          refine seqQ_r ?_
          obtain rfl := Option.some.inj h
          exact ⟨.inl rfl, _, _, (Mat.trans (Mat.coeP (Ts := [(4, (qe_api_Cell_4 ([] : List api_Cell)))]) (Bs := []) (TwT.cons (x := .nils) (by rfl) (Tw.leaf ⟨_, (Co.nils 4), rfl⟩) TwT.nil) TwB.nil) (mp [] [(4, (qe_api_Cell_4 ([] : List api_Cell))), (5, (i6 (3 : Int)))] [] hB)), [(qe_api_Cell_4 ([] : List api_Cell)), (i6 (3 : Int))], (Res.tmp (by rfl) (by rfl) (Res.tmp (by rfl) (by rfl) Res.nil)), rfl, by rfl, by rfl, by rfl⟩
        · replace h := ite_f hg61 h
          refine AWp.skip ?_
          refine seqQ_n ?_
          refine sr (c (mv hN (q 11)) rfl (c (OpJ.assign (L rfl) (q 45)) rfl (c (OpJ.assign (L rfl) (Opd.int .i64 (0))) rfl cn))) ?_
          refine gh [(4, _), (5, _)] [] hB rfl rfl (by rfl) ?_
          refine AWp.ret ?_
          obtain rfl := Option.some.inj h
          exact ⟨.inl rfl, _, _, (kp [(4, _), (5, _)] [] hB rfl rfl (by rfl)), [(qe_api_Cell_4 r59), (i6 0)], (Res.tmp (by rfl) (by rfl) (Res.tmp (by rfl) (by rfl) Res.nil)), rfl, by rfl, by rfl, by rfl⟩
  · obtain ⟨r62, hr62, h⟩ := bindS h
    rcases Bool.eq_false_or_eq_true (!r62) with hg63 | hg63
    · replace h := ite_t hg63 h
      refine rg (c (mv hN (q 0)) rfl (cg (OpJ.callFn hB fnOk17 (matrix_Valid_ac a0 r62 hr62) [] (by kernel_rfl) (L rfl) (by kernel_rfl) (OpdL.cons (q 12) OpdL.nil)) rfl (c (OpJ.not (L rfl) (q 13)) rfl (c (OpJ.val (v' := .d (.bool true)) (by rw [hg63]) (mv hN (q 14))) rfl (cg (OpJ.skipU (g := 15) (L rfl) (by rfl)) rfl (cg (OpJ.skipU (g := 15) (L rfl) (by rfl)) rfl (cg (OpJ.skipU (g := 15) (L rfl) (by rfl)) rfl (c (OpJ.pickT (L rfl) (q 15) (Opd.bool true)) rfl cn)))))))) ?_
      exact hjj6 _ h _ _ (Mat.trans (mp [] [(0, (qe_api_Cell_4 a0)), (1, (qe_api_Cell_4 a1)), (19, (bo true))] [] hB) (mp [] _ _ hB))
    · replace h := ite_f hg63 h
      obtain ⟨r64, hr64, h⟩ := bindS h
      refine rg (c (mv hN (q 0)) rfl (cg (OpJ.callFn hB fnOk17 (matrix_Valid_ac a0 r62 hr62) [] (by kernel_rfl) (L rfl) (by kernel_rfl) (OpdL.cons (q 12) OpdL.nil)) rfl (c (OpJ.not (L rfl) (q 13)) rfl (c (OpJ.val (v' := .d (.bool false)) (by rw [hg63]) (mv hN (q 14))) rfl (c (OpJ.guarded (g := 15) (by rfl) (mv hN (q 1))) rfl (cg (OpJ.guarded (g := 15) (by rfl) (OpJ.callFn hB fnOk17 (matrix_Valid_ac a1 r64 hr64) [] (by kernel_rfl) (L rfl) (by kernel_rfl) (OpdL.cons (q 16) OpdL.nil))) rfl (c (OpJ.guarded (g := 15) (by rfl) (OpJ.not (L rfl) (q 17))) rfl (c (OpJ.pickF (L rfl) (q 15) (q 18)) rfl cn)))))))) ?_
      exact hjj6 _ h _ _ (Mat.trans (mp [] [(0, (qe_api_Cell_4 a0)), (1, (qe_api_Cell_4 a1)), (19, (bo (!r64)))] [] hB) (mp [] _ _ hB))

noncomputable def exchangepointref38_Add_L0 (a1 : (List api_Cell)) (s9 : (List api_Cell) × Int) : Option ((((List api_Cell))) ⊕ ((List api_Cell) × Int)) :=
  (if (decide (s9.2 < (a1.length : Int))) = true then
  (idx a1 s9.2).bind fun x18 =>
  (exchangepointref38_put s9.1 x18).bind fun r19 =>
  some (.inr (r19, (w64 (s9.2 + (1 : Int)))))
  else
  some (.inl s9.1))
noncomputable def exchangepointref38_Add (a0 : (List api_Cell)) (a1 : (List api_Cell)) : Option ((List api_Cell) × Int) :=
  jn (fun m5 : Bool =>
  (if m5 = true then
  some (([] : List api_Cell), (1 : Int))
  else
  chk (decide (a0.length ≤ LIM)) <|
  (loop (exchangepointref38_Add_L0 a1) (a0, (0 : Int))).bind fun p16 =>
  (exchangepointref38_Valid p16).bind fun r22 =>
  (if (!r22) = true then
  some (([] : List api_Cell), (3 : Int))
  else
  some (p16, (0 : Int))))) (fun j6 =>
  (exchangepointref38_Valid a0).bind fun r24 =>
  (if (!r24) = true then
  j6 true
  else
  (exchangepointref38_Valid a1).bind fun r26 =>
  j6 (!r26)))
set_option maxHeartbeats 4000000 in
set_option maxRecDepth 100000 in
theorem exchangepointref38_Add_ac (a0 : (List api_Cell)) (a1 : (List api_Cell)) (r : (List api_Cell) × Int) (h : exchangepointref38_Add a0 a1 = some r) : AC Try.prog 20 [(.d (.list 4 (a0.map e_api_Cell))), (.d (.list 4 (a1.map e_api_Cell)))] [] (.tup [(.d (.list 4 (r.1.map e_api_Cell))), (.d (.int .i64 r.2))]) [] := by
  refine AC.of_code2 Try.func20 rfl rfl (Nat.le_of_ble_eq_true (by rfl)) fun B hB hN => ?_
  have L {d : Nat} (h : Nat.blt d Try.f20.ntmps = true) : d < B.N := ltN hN h
  delta exchangepointref38_Add at h
  refine sr (c (OpJ.assign (L rfl) Opd.nils) rfl (c (OpJ.assign (L rfl) (Opd.int .i64 (0))) rfl cn)) ?_
  refine gh [(0, _), (1, _)] [] hB rfl rfl (by rfl) ?_
  refine AWp.seq ?_
  refine AWp.seq ?_
  refine AWp.cut h (fun m5 : Bool => ([(0, (qe_api_Cell_4 a0)), (1, (qe_api_Cell_4 a1)), (16, (bo m5))] : EL)) (fun m5 : Bool => ([] : OL)) (fun m5 h E' O' hmat => ?_) (fun j6 hjj6 h => ?_)
  · refine seqQ_n ?_
    refine AWp.ghost hmat ?_
    refine AWp.cond rfl (fun hg7 => ?_) (fun hg7 => ?_)
    · replace h := ite_t hg7 h
      refine sr (c (OpJ.assign (L rfl) Opd.nils) rfl (c (OpJ.assign (L rfl) (Opd.int .i64 (1))) rfl cn)) ?_
      refine gh [(4, _), (5, _)] [] hB rfl rfl (by rfl) ?_
      refine AWp.ret ?_
      refine seqQ_r ?_
      obtain rfl := Option.some.inj h
      exact ⟨.inl rfl, _, _, (Mat.trans (Mat.coeP (Ts := [(4, (qe_api_Cell_4 ([] : List api_Cell)))]) (Bs := []) (TwT.cons (x := .nils) (by rfl) (Tw.leaf ⟨_, (Co.nils 4), rfl⟩) TwT.nil) TwB.nil) (mp [] [(4, (qe_api_Cell_4 ([] : List api_Cell))), (5, (i6 1))] [] hB)), [(qe_api_Cell_4 ([] : List api_Cell)), (i6 1)], (Res.tmp (by rfl) (by rfl) (Res.tmp (by rfl) (by rfl) Res.nil)), rfl, by rfl, by rfl, by rfl⟩
    · replace h := ite_f hg7 h
      refine AWp.skip ?_
      refine seqQ_n ?_
      obtain ⟨hc8, h⟩ := chk_some h
      refine sr (c (mv hN (q 0)) rfl (cg (OpJ.appendN hB Try.underlying27 tyE23 (nm := 1018) (by decide) (ys := a0.map e_api_Cell) (len := a0.length) (by simp) (map_sz (f := e_api_Cell) (fun _ => rfl)) (by rw [List.length_map]; exact lim_mulN hc8 (by decide)) (by rw [List.length_map]; exact lim_leN hc8) (L rfl) Opd.nils (q 17)) rfl (c (OpJ.assign (L rfl) (q 18)) rfl cn))) ?_
      refine gh [(1, _), (6, _)] [(1018, some _)] hB rfl rfl (by rfl) ?_
      refine AWp.seq ?_
      refine sr (c (mv hN (q 1)) rfl (c (OpJ.val (v' := (i6 (a1.length : Int))) (by simp) (OpJ.lenD Try.underlying27 (L rfl) (q 19))) rfl (c (mv hN (Opd.int .i64 (0))) rfl cn))) ?_
      refine gh [(6, _), (19, _), (20, _), (21, _)] [(1018, some _)] hB rfl rfl (by rfl) ?_
      refine AWp.block ?_
      obtain ⟨p16, hx21, h⟩ := bindS h
      refine lg (exchangepointref38_Add_L0 a1) (fun s9 : (List api_Cell) × Int => ([(6, (qe_api_Cell_4 s9.1)), (19, (qe_api_Cell_4 a1)), (20, (i6 (a1.length : Int))), (21, (i6 s9.2))] : EL)) (fun s9 : (List api_Cell) × Int => ([] : OL)) (fun (p16 : ((List api_Cell))) e E' O' => e = .exit 0 ∧ Mat B E' O' ([(6, (qe_api_Cell_4 p16))] : EL) ([] : OL)) hx21 (Mat.trans (Mat.freezeP (n := 1018) (e := 23) (sz := 4) (es := a0.map e_api_Cell) (Ts := [(6, (qe_api_Cell_4 a0))]) (Bs := []) (by rfl) (TwT.cons (x := (.sref 1018 4 0 a0.length)) (by rfl) (FrzL.all (by first | rfl | (simp; done) | (simp; omega))) TwT.nil) TwB.nil) (mp [] _ _ hB)) (fun s9 y h => ?_) (fun e E' O' hR => ?_)
      · unfold exchangepointref38_Add_L0 at h
        refine sr (c (OpJ.lss (L rfl) (q 21) (q 20)) rfl cn) ?_
        refine gh [(6, _), (19, _), (20, _), (21, _), (22, _)] [] hB rfl rfl (by rfl) ?_
        refine AWp.seq ?_
        refine AWp.cond rfl (fun hg17 => ?_) (fun hg17 => ?_)
        · replace h := ite_t hg17 h
          refine AWp.skip ?_
          refine seqQ_n ?_
          refine AWp.seq ?_
          refine AWp.block ?_
          obtain ⟨x18, hx18, h⟩ := bindS h
          refine sr (c (OpJ.indexD Try.underlying27 tyS23 (idx_some hx18).1 (get_map e_api_Cell (idx_some hx18).2) (L rfl) (q 19) (q 21)) rfl (c (OpJ.loadD tyS23 (by rfl) (by rfl) (L rfl) (q 23)) rfl (cg (OpJ.alloc hB tyZ23 (nm := 1008) (by decide) (L rfl)) rfl (cg (OpJ.storeB tyS23 (SetAt.here _ _) (by rfl) (by rfl) (by simp) rfl (q 8) (q 24)) rfl cn)))) ?_
          refine gh [(6, _), (8, _), (19, _), (20, _), (21, _)] [(1008, some _)] hB rfl rfl (by rfl) ?_
          obtain ⟨r19, hr19, h⟩ := bindS h
          refine rg (c (mv hN (q 6)) rfl (c (lb hN 23 _ _ tyS23 (At.here _) (q 8)) rfl (cg (OpJ.callFn hB fnOk34 (exchangepointref38_put_ac s9.1 x18 r19 hr19) [] (by kernel_rfl) (L rfl) (by kernel_rfl) (OpdL.cons (q 25) (OpdL.cons (q 26) OpdL.nil))) rfl (c (OpJ.assign (L rfl) (q 27)) rfl cn)))) ?_
          refine blkQ_n ?_
          refine seqQ_n ?_
          refine gh [(6, _), (19, _), (20, _), (21, _)] [] hB rfl rfl (by rfl) ?_
          refine rg (c (add6 (L rfl) (q 21) (Opd.int .i64 (1))) rfl (c (mv hN (q 28)) rfl cn)) ?_
          obtain rfl := Option.some.inj h
          exact ⟨rfl, (Mat.trans (mp [] [(6, (qe_api_Cell_4 r19)), (19, (qe_api_Cell_4 a1)), (20, (i6 (a1.length : Int))), (21, (i6 (w64 (s9.2 + (1 : Int)))))] [] hB) (mp [] _ _ hB))⟩
        · replace h := ite_f hg17 h
          refine AWp.exit ?_
          refine seqQ_e ?_
          obtain rfl := Option.some.inj h
          exact ⟨(fun hc => by cases hc), rfl, (mp [] _ _ hB)⟩
      · obtain ⟨rfl, hmat⟩ := hR
        refine blkQ_hit ?_
        refine seqQ_n ?_
        refine AWp.ghost hmat ?_
        refine AWp.seq ?_
        obtain ⟨r22, hr22, h⟩ := bindS h
        refine sr (c (mv hN (q 6)) rfl (cg (OpJ.callFn hB fnOk18 (exchangepointref38_Valid_ac p16 r22 hr22) [] (by kernel_rfl) (L rfl) (by kernel_rfl) (OpdL.cons (q 29) OpdL.nil)) rfl (c (OpJ.not (L rfl) (q 30)) rfl cn))) ?_
        refine gh [(6, _), (31, _)] [] hB rfl rfl (by rfl) ?_
        refine AWp.cond rfl (fun hg23 => ?_) (fun hg23 => ?_)
        · replace h := ite_t hg23 h
          refine sr (c (OpJ.assign (L rfl) Opd.nils) rfl (c (OpJ.assign (L rfl) (Opd.int .i64 (3))) rfl cn)) ?_
          refine gh [(4, _), (5, _)] [] hB rfl rfl (by rfl) ?_
          refine AWp.ret ?_
          refine seqQ_r ?_
          obtain rfl := Option.some.inj h
          exact ⟨.inl rfl, _, _, (Mat.trans (Mat.coeP (Ts := [(4, (qe_api_Cell_4 ([] : List api_Cell)))]) (Bs := []) (TwT.cons (x := .nils) (by rfl) (Tw.leaf ⟨_, (Co.nils 4), rfl⟩) TwT.nil) TwB.nil) (mp [] [(4, (qe_api_Cell_4 ([] : List api_Cell))), (5, (i6 (3 : Int)))] [] hB)), [(qe_api_Cell_4 ([] : List api_Cell)), (i6 (3 : Int))], (Res.tmp (by rfl) (by rfl) (Res.tmp (by rfl) (by rfl) Res.nil)), rfl, by rfl, by rfl, by rfl⟩
        · replace h := ite_f hg23 h
          refine AWp.skip ?_
          refine seqQ_n ?_
          refine sr (c (mv hN (q 6)) rfl (c (OpJ.assign (L rfl) (q 32)) rfl (c (OpJ.assign (L rfl) (Opd.int .i64 (0))) rfl cn))) ?_
          refine gh [(4, _), (5, _)] [] hB rfl rfl (by rfl) ?_
          refine AWp.ret ?_
          obtain rfl := Option.some.inj h
          exact ⟨.inl rfl, _, _, (kp [(4, _), (5, _)] [] hB rfl rfl (by rfl)), [(qe_api_Cell_4 p16), (i6 0)], (Res.tmp (by rfl) (by rfl) (Res.tmp (by rfl) (by rfl) Res.nil)), rfl, by rfl, by rfl, by rfl⟩
  · obtain ⟨r24, hr24, h⟩ := bindS h
    rcases Bool.eq_false_or_eq_true (!r24) with hg25 | hg25
    · replace h := ite_t hg25 h
      refine rg (c (mv hN (q 0)) rfl (cg (OpJ.callFn hB fnOk18 (exchangepointref38_Valid_ac a0 r24 hr24) [] (by kernel_rfl) (L rfl) (by kernel_rfl) (OpdL.cons (q 9) OpdL.nil)) rfl (c (OpJ.not (L rfl) (q 10)) rfl (c (OpJ.val (v' := .d (.bool true)) (by rw [hg25]) (mv hN (q 11))) rfl (cg (OpJ.skipU (g := 12) (L rfl) (by rfl)) rfl (cg (OpJ.skipU (g := 12) (L rfl) (by rfl)) rfl (cg (OpJ.skipU (g := 12) (L rfl) (by rfl)) rfl (c (OpJ.pickT (L rfl) (q 12) (Opd.bool true)) rfl cn)))))))) ?_
      exact hjj6 _ h _ _ (Mat.trans (mp [] [(0, (qe_api_Cell_4 a0)), (1, (qe_api_Cell_4 a1)), (16, (bo true))] [] hB) (mp [] _ _ hB))
    · replace h := ite_f hg25 h
      obtain ⟨r26, hr26, h⟩ := bindS h
      refine rg (c (mv hN (q 0)) rfl (cg (OpJ.callFn hB fnOk18 (exchangepointref38_Valid_ac a0 r24 hr24) [] (by kernel_rfl) (L rfl) (by kernel_rfl) (OpdL.cons (q 9) OpdL.nil)) rfl (c (OpJ.not (L rfl) (q 10)) rfl (c (OpJ.val (v' := .d (.bool false)) (by rw [hg25]) (mv hN (q 11))) rfl (c (OpJ.guarded (g := 12) (by rfl) (mv hN (q 1))) rfl (cg (OpJ.guarded (g := 12) (by rfl) (OpJ.callFn hB fnOk18 (exchangepointref38_Valid_ac a1 r26 hr26) [] (by kernel_rfl) (L rfl) (by kernel_rfl) (OpdL.cons (q 13) OpdL.nil))) rfl (c (OpJ.guarded (g := 12) (by rfl) (OpJ.not (L rfl) (q 14))) rfl (c (OpJ.pickF (L rfl) (q 12) (q 15)) rfl cn)))))))) ?_
      exact hjj6 _ h _ _ (Mat.trans (mp [] [(0, (qe_api_Cell_4 a0)), (1, (qe_api_Cell_4 a1)), (16, (bo (!r26)))] [] hB) (mp [] _ _ hB))

noncomputable def matrix_Total_1 (a0 : api_Cell) : Option (Bool) :=
  some true
set_option maxHeartbeats 4000000 in
set_option maxRecDepth 100000 in
theorem matrix_Total_1_ac (a0 : api_Cell) (r : Bool) (h : matrix_Total_1 a0 = some r) : AC Try.prog 42 [(.d (e_api_Cell a0))] [] (.d (.bool r)) [] := by
  refine AC.of_code2 Try.func42 rfl rfl (Nat.le_of_ble_eq_true (by rfl)) fun B hB hN => ?_
  delta matrix_Total_1 at h
  refine sr (cg (OpJ.box hB (nm := 1001) (by decide) (by simp) rfl (ltN hN rfl) (q 0)) rfl (c (OpJ.assign (ltN hN rfl) (Opd.bool false)) rfl cn)) ?_
  refine gh [] [] hB rfl rfl (by rfl) ?_
  refine sr (c (OpJ.assign (ltN hN rfl) (Opd.bool true)) rfl cn) ?_
  refine gh [(2, _)] [] hB rfl rfl (by rfl) ?_
  refine AWp.ret ?_
  obtain rfl := Option.some.inj h
  exact ⟨.inl rfl, _, _, (kp [(2, _)] [] hB rfl rfl (by rfl)), [(bo true)], (Res.tmp (by rfl) (by rfl) Res.nil), rfl, by rfl, by rfl, by rfl⟩

noncomputable def matrix_sums_L0 (a0 : (List api_Cell)) (s1 : Int × Int × Int) : Option (((Int × Int)) ⊕ (Int × Int × Int)) :=
  (if (decide (s1.2.2 < (a0.length : Int))) = true then
  (idx a0 s1.2.2).bind fun x18 =>
  (matrix_Total_1 x18).bind fun r19 =>
  jn (fun m21 : Int × Int =>
  some (.inr (m21.1, m21.2, (w64 (s1.2.2 + (1 : Int)))))) (fun j22 =>
  (if r19 = true then
  j22 ((w64 (s1.1 + x18.fSamples)), (w64 (s1.2.1 + x18.fBytes)))
  else
  j22 (s1.1, s1.2.1)))
  else
  some (.inl (s1.1, s1.2.1)))
noncomputable def matrix_sums (a0 : (List api_Cell)) : Option (Int × Int) :=
  (loop (matrix_sums_L0 a0) ((0 : Int), (0 : Int), (0 : Int))).bind fun p16 =>
  some (p16.1, p16.2)
set_option maxHeartbeats 4000000 in
set_option maxRecDepth 100000 in
theorem matrix_sums_ac (a0 : (List api_Cell)) (r : Int × Int) (h : matrix_sums a0 = some r) : AC Try.prog 41 [(.d (.list 4 (a0.map e_api_Cell))), (.func 42 [])] [] (.tup [(.d (.int .i64 r.1)), (.d (.int .i64 r.2))]) [] := by
  refine AC.of_code2 Try.func41 rfl rfl (Nat.le_of_ble_eq_true (by rfl)) fun B hB hN => ?_
  have L {d : Nat} (h : Nat.blt d Try.f41.ntmps = true) : d < B.N := ltN hN h
  delta matrix_sums at h
  refine sr (c (OpJ.assign (L rfl) (Opd.int .i64 (0))) rfl (c (OpJ.assign (L rfl) (Opd.int .i64 (0))) rfl cn)) ?_
  refine gh [(0, _), (1, _)] [] hB rfl rfl (by rfl) ?_
  refine sr (c (OpJ.assign (L rfl) (Opd.int .i64 (0))) rfl (c (OpJ.assign (L rfl) (Opd.int .i64 (0))) rfl cn)) ?_
  refine gh [(0, _), (1, _), (6, _), (7, _)] [] hB rfl rfl (by rfl) ?_
  refine AWp.seq ?_
  refine sr (c (mv hN (q 0)) rfl (c (OpJ.val (v' := (i6 (a0.length : Int))) (by simp) (OpJ.lenD Try.underlying27 (L rfl) (q 10))) rfl (c (mv hN (Opd.int .i64 (0))) rfl cn))) ?_
  refine gh [(1, _), (6, _), (7, _), (10, _), (11, _), (12, _)] [] hB rfl rfl (by rfl) ?_
  refine AWp.block ?_
  obtain ⟨p16, hx25, h⟩ := bindS h
  refine lg (matrix_sums_L0 a0) (fun s1 : Int × Int × Int => ([(1, (.func 42 [])), (6, (i6 s1.1)), (7, (i6 s1.2.1)), (10, (qe_api_Cell_4 a0)), (11, (i6 (a0.length : Int))), (12, (i6 s1.2.2))] : EL)) (fun s1 : Int × Int × Int => ([] : OL)) (fun (p16 : (Int × Int)) e E' O' => e = .exit 0 ∧ Mat B E' O' ([(6, (i6 p16.1)), (7, (i6 p16.2))] : EL) ([] : OL)) hx25 (mp [] _ _ hB) (fun s1 y h => ?_) (fun e E' O' hR => ?_)
  · unfold matrix_sums_L0 at h
    refine sr (c (OpJ.lss (L rfl) (q 12) (q 11)) rfl cn) ?_
    refine gh [(1, _), (6, _), (7, _), (10, _), (11, _), (12, _), (13, _)] [] hB rfl rfl (by rfl) ?_
    refine AWp.seq ?_
    refine AWp.cond rfl (fun hg17 => ?_) (fun hg17 => ?_)
    · replace h := ite_t hg17 h
      refine AWp.skip ?_
      refine seqQ_n ?_
      refine AWp.seq ?_
      refine AWp.block ?_
      obtain ⟨x18, hx18, h⟩ := bindS h
      refine sr (c (OpJ.indexD Try.underlying27 tyS23 (idx_some hx18).1 (get_map e_api_Cell (idx_some hx18).2) (L rfl) (q 10) (q 12)) rfl (c (OpJ.loadD tyS23 (by rfl) (by rfl) (L rfl) (q 14)) rfl (cg (OpJ.alloc hB tyZ23 (nm := 1009) (by decide) (L rfl)) rfl (cg (OpJ.storeB tyS23 (SetAt.here _ _) (by rfl) (by rfl) (by simp) rfl (q 9) (q 15)) rfl cn)))) ?_
      refine gh [(1, _), (6, _), (7, _), (9, _), (10, _), (11, _), (12, _)] [(1009, some _)] hB rfl rfl (by rfl) ?_
      obtain ⟨r19, hr19, h⟩ := bindS h
      refine sr (c (mv hN (q 1)) rfl (c (lb hN 23 _ _ tyS23 (At.here _) (q 9)) rfl (cg (OpJ.callVal (args := [(.d (e_api_Cell x18))]) (caps := []) hB fnOk42 [] (matrix_Total_1_ac x18 r19 hr19) (by kernel_rfl) (L rfl) (by kernel_rfl) (by kernel_rfl) (OpdL.cons (q 17) OpdL.nil)) rfl cn))) ?_
      refine gh [(1, _), (6, _), (7, _), (9, _), (10, _), (11, _), (12, _), (18, _)] [(1009, some _)] hB rfl rfl (by rfl) ?_
      refine AWp.cut h (fun m21 : Int × Int => ([(1, (.func 42 [])), (6, (i6 m21.1)), (7, (i6 m21.2)), (10, (qe_api_Cell_4 a0)), (11, (i6 (a0.length : Int))), (12, (i6 s1.2.2))] : EL)) (fun m21 : Int × Int => ([] : OL)) (fun m21 h E' O' hmat => ?_) (fun j22 hjj22 h => ?_)
      · refine blkQ_n ?_
        refine seqQ_n ?_
        refine AWp.ghost hmat ?_
        refine rg (c (add6 (L rfl) (q 12) (Opd.int .i64 (1))) rfl (c (mv hN (q 27)) rfl cn)) ?_
        obtain rfl := Option.some.inj h
        exact ⟨rfl, (Mat.trans (mp [] [(1, (.func 42 [])), (6, (i6 m21.1)), (7, (i6 m21.2)), (10, (qe_api_Cell_4 a0)), (11, (i6 (a0.length : Int))), (12, (i6 (w64 (s1.2.2 + (1 : Int)))))] [] hB) (mp [] _ _ hB))⟩
      · refine AWp.cond rfl (fun hg23 => ?_) (fun hg23 => ?_)
        · replace h := ite_t hg23 h
          refine sr (c (mv hN (q 6)) rfl (c (ov (.ptr 1009 2 [2]) (fp hN Try.underlying23 2 tyS3 _ (q 9))) rfl (c (lb hN 23 _ _ tyS3 (ad _) (q 20)) rfl (c (add6 (L rfl) (q 19) (q 21)) rfl (c (OpJ.assign (L rfl) (q 22)) rfl cn))))) ?_
          refine gh [(1, _), (6, _), (7, _), (9, _), (10, _), (11, _), (12, _)] [(1009, some _)] hB rfl rfl (by rfl) ?_
          refine rg (c (mv hN (q 7)) rfl (c (ov (.ptr 1009 3 [3]) (fp hN Try.underlying23 3 tyS3 _ (q 9))) rfl (c (lb hN 23 _ _ tyS3 (ad _) (q 24)) rfl (c (add6 (L rfl) (q 23) (q 25)) rfl (c (OpJ.assign (L rfl) (q 26)) rfl cn))))) ?_
          exact hjj22 _ h _ _ (Mat.trans (mp [] [(1, (.func 42 [])), (6, (i6 (w64 (s1.1 + x18.fSamples)))), (7, (i6 (w64 (s1.2.1 + x18.fBytes)))), (10, (qe_api_Cell_4 a0)), (11, (i6 (a0.length : Int))), (12, (i6 s1.2.2))] [] hB) (mp [] _ _ hB))
        · replace h := ite_f hg23 h
          refine AWp.skip ?_
          exact hjj22 _ h _ _ (mp [] _ _ hB)
    · replace h := ite_f hg17 h
      refine AWp.exit ?_
      refine seqQ_e ?_
      obtain rfl := Option.some.inj h
      exact ⟨(fun hc => by cases hc), rfl, (mp [] _ _ hB)⟩
  · obtain ⟨rfl, hmat⟩ := hR
    refine blkQ_hit ?_
    refine seqQ_n ?_
    refine AWp.ghost hmat ?_
    refine sr (c (mv hN (q 6)) rfl (c (mv hN (q 7)) rfl (c (OpJ.assign (L rfl) (q 28)) rfl (c (OpJ.assign (L rfl) (q 29)) rfl cn)))) ?_
    refine gh [(4, _), (5, _)] [] hB rfl rfl (by rfl) ?_
    refine AWp.ret ?_
    obtain rfl := Option.some.inj h
    exact ⟨.inl rfl, _, _, (kp [(4, _), (5, _)] [] hB rfl rfl (by rfl)), [(i6 p16.1), (i6 p16.2)], (Res.tmp (by rfl) (by rfl) (Res.tmp (by rfl) (by rfl) Res.nil)), rfl, by rfl, by rfl, by rfl⟩

noncomputable def matrix_Total (a0 : (List api_Cell)) : Option (Int × Int) :=
  (matrix_sums a0).bind fun r1 =>
  some (r1.1, r1.2)
set_option maxHeartbeats 4000000 in
set_option maxRecDepth 100000 in
theorem matrix_Total_ac (a0 : (List api_Cell)) (r : Int × Int) (h : matrix_Total a0 = some r) : AC Try.prog 21 [(.d (.list 4 (a0.map e_api_Cell)))] [] (.tup [(.d (.int .i64 r.1)), (.d (.int .i64 r.2))]) [] := by
  refine AC.of_code2 Try.func21 rfl rfl (Nat.le_of_ble_eq_true (by rfl)) fun B hB hN => ?_
  delta matrix_Total at h
  refine sr (c (OpJ.assign (ltN hN rfl) (Opd.int .i64 (0))) rfl (c (OpJ.assign (ltN hN rfl) (Opd.int .i64 (0))) rfl cn)) ?_
  refine gh [(0, _)] [] hB rfl rfl (by rfl) ?_
  obtain ⟨r1, hr1, h⟩ := bindS h
  refine sr (c (mv hN (q 0)) rfl (cg (OpJ.callFn hB fnOk41 (matrix_sums_ac a0 r1 hr1) [] (by kernel_rfl) (ltN hN rfl) (by kernel_rfl) (OpdL.cons (q 4) (OpdL.cons (Opd.func 42) OpdL.nil))) rfl (c (OpJ.extract (by rfl) rfl (ltN hN rfl) (q 5)) rfl (c (OpJ.extract (by rfl) rfl (ltN hN rfl) (q 5)) rfl (c (OpJ.assign (ltN hN rfl) (q 6)) rfl (c (OpJ.assign (ltN hN rfl) (q 7)) rfl cn)))))) ?_
  refine gh [(2, _), (3, _)] [] hB rfl rfl (by rfl) ?_
  refine AWp.ret ?_
  obtain rfl := Option.some.inj h
  exact ⟨.inl rfl, _, _, (kp [(2, _), (3, _)] [] hB rfl rfl (by rfl)), [(i6 r1.1), (i6 r1.2)], (Res.tmp (by rfl) (by rfl) (Res.tmp (by rfl) (by rfl) Res.nil)), rfl, by rfl, by rfl, by rfl⟩

noncomputable def exchangepointref38_Total_L0 (a0 : (List api_Cell)) (s1 : Int × Int × Int) : Option (((Int × Int)) ⊕ (Int × Int × Int)) :=
  (if (decide (s1.2.2 < (a0.length : Int))) = true then
  (idx a0 s1.2.2).bind fun x8 =>
  some (.inr ((w64 (s1.1 + x8.fSamples)), (w64 (s1.2.1 + x8.fBytes)), (w64 (s1.2.2 + (1 : Int)))))
  else
  some (.inl (s1.1, s1.2.1)))
noncomputable def exchangepointref38_Total (a0 : (List api_Cell)) : Option (Int × Int) :=
  (loop (exchangepointref38_Total_L0 a0) ((0 : Int), (0 : Int), (0 : Int))).bind fun p6 =>
  some (p6.1, p6.2)
set_option maxHeartbeats 4000000 in
set_option maxRecDepth 100000 in
theorem exchangepointref38_Total_ac (a0 : (List api_Cell)) (r : Int × Int) (h : exchangepointref38_Total a0 = some r) : AC Try.prog 22 [(.d (.list 4 (a0.map e_api_Cell)))] [] (.tup [(.d (.int .i64 r.1)), (.d (.int .i64 r.2))]) [] := by
  refine AC.of_code2 Try.func22 rfl rfl (Nat.le_of_ble_eq_true (by rfl)) fun B hB hN => ?_
  have L {d : Nat} (h : Nat.blt d Try.f22.ntmps = true) : d < B.N := ltN hN h
  delta exchangepointref38_Total at h
  refine sr (c (OpJ.assign (L rfl) (Opd.int .i64 (0))) rfl (c (OpJ.assign (L rfl) (Opd.int .i64 (0))) rfl cn)) ?_
  refine gh [(0, _)] [] hB rfl rfl (by rfl) ?_
  refine sr (c (OpJ.assign (L rfl) (Opd.int .i64 (0))) rfl (c (OpJ.assign (L rfl) (Opd.int .i64 (0))) rfl cn)) ?_
  refine gh [(0, _), (4, _), (5, _)] [] hB rfl rfl (by rfl) ?_
  refine AWp.seq ?_
  refine sr (c (mv hN (q 0)) rfl (c (OpJ.val (v' := (i6 (a0.length : Int))) (by simp) (OpJ.lenD Try.underlying27 (L rfl) (q 8))) rfl (c (mv hN (Opd.int .i64 (0))) rfl cn))) ?_
  refine gh [(4, _), (5, _), (8, _), (9, _), (10, _)] [] hB rfl rfl (by rfl) ?_
  refine AWp.block ?_
  obtain ⟨p6, hx10, h⟩ := bindS h
  refine lg (exchangepointref38_Total_L0 a0) (fun s1 : Int × Int × Int => ([(4, (i6 s1.1)), (5, (i6 s1.2.1)), (8, (qe_api_Cell_4 a0)), (9, (i6 (a0.length : Int))), (10, (i6 s1.2.2))] : EL)) (fun s1 : Int × Int × Int => ([] : OL)) (fun (p6 : (Int × Int)) e E' O' => e = .exit 0 ∧ Mat B E' O' ([(4, (i6 p6.1)), (5, (i6 p6.2))] : EL) ([] : OL)) hx10 (mp [] _ _ hB) (fun s1 y h => ?_) (fun e E' O' hR => ?_)
  · unfold exchangepointref38_Total_L0 at h
    refine sr (c (OpJ.lss (L rfl) (q 10) (q 9)) rfl cn) ?_
    refine gh [(4, _), (5, _), (8, _), (9, _), (10, _), (11, _)] [] hB rfl rfl (by rfl) ?_
    refine AWp.seq ?_
    refine AWp.cond rfl (fun hg7 => ?_) (fun hg7 => ?_)
    · replace h := ite_t hg7 h
      refine AWp.skip ?_
      refine seqQ_n ?_
      refine AWp.seq ?_
      refine AWp.block ?_
      obtain ⟨x8, hx8, h⟩ := bindS h
      refine sr (c (OpJ.indexD Try.underlying27 tyS23 (idx_some hx8).1 (get_map e_api_Cell (idx_some hx8).2) (L rfl) (q 8) (q 10)) rfl (c (OpJ.loadD tyS23 (by rfl) (by rfl) (L rfl) (q 12)) rfl (cg (OpJ.alloc hB tyZ23 (nm := 1007) (by decide) (L rfl)) rfl (cg (OpJ.storeB tyS23 (SetAt.here _ _) (by rfl) (by rfl) (by simp) rfl (q 7) (q 13)) rfl cn)))) ?_
      refine gh [(4, _), (5, _), (7, _), (8, _), (9, _), (10, _)] [(1007, some _)] hB rfl rfl (by rfl) ?_
      refine sr (c (mv hN (q 4)) rfl (c (ov (.ptr 1007 2 [2]) (fp hN Try.underlying23 2 tyS3 _ (q 7))) rfl (c (lb hN 23 _ _ tyS3 (ad _) (q 15)) rfl (c (add6 (L rfl) (q 14) (q 16)) rfl (c (OpJ.assign (L rfl) (q 17)) rfl cn))))) ?_
      refine gh [(4, _), (5, _), (7, _), (8, _), (9, _), (10, _)] [(1007, some _)] hB rfl rfl (by rfl) ?_
      refine rg (c (mv hN (q 5)) rfl (c (ov (.ptr 1007 3 [3]) (fp hN Try.underlying23 3 tyS3 _ (q 7))) rfl (c (lb hN 23 _ _ tyS3 (ad _) (q 19)) rfl (c (add6 (L rfl) (q 18) (q 20)) rfl (c (OpJ.assign (L rfl) (q 21)) rfl cn))))) ?_
      refine blkQ_n ?_
      refine seqQ_n ?_
      refine gh [(4, _), (5, _), (8, _), (9, _), (10, _)] [] hB rfl rfl (by rfl) ?_
      refine rg (c (add6 (L rfl) (q 10) (Opd.int .i64 (1))) rfl (c (mv hN (q 22)) rfl cn)) ?_
      obtain rfl := Option.some.inj h
      exact ⟨rfl, (Mat.trans (mp [] [(4, (i6 (w64 (s1.1 + x8.fSamples)))), (5, (i6 (w64 (s1.2.1 + x8.fBytes)))), (8, (qe_api_Cell_4 a0)), (9, (i6 (a0.length : Int))), (10, (i6 (w64 (s1.2.2 + (1 : Int)))))] [] hB) (mp [] _ _ hB))⟩
    · replace h := ite_f hg7 h
      refine AWp.exit ?_
      refine seqQ_e ?_
      obtain rfl := Option.some.inj h
      exact ⟨(fun hc => by cases hc), rfl, (mp [] _ _ hB)⟩
  · obtain ⟨rfl, hmat⟩ := hR
    refine blkQ_hit ?_
    refine seqQ_n ?_
    refine AWp.ghost hmat ?_
    refine sr (c (mv hN (q 4)) rfl (c (mv hN (q 5)) rfl (c (OpJ.assign (L rfl) (q 23)) rfl (c (OpJ.assign (L rfl) (q 24)) rfl cn)))) ?_
    refine gh [(2, _), (3, _)] [] hB rfl rfl (by rfl) ?_
    refine AWp.ret ?_
    obtain rfl := Option.some.inj h
    exact ⟨.inl rfl, _, _, (kp [(2, _), (3, _)] [] hB rfl rfl (by rfl)), [(i6 p6.1), (i6 p6.2)], (Res.tmp (by rfl) (by rfl) (Res.tmp (by rfl) (by rfl) Res.nil)), rfl, by rfl, by rfl, by rfl⟩

noncomputable def matrix_From_1 (a0 : api_Cell) (a1 : Int) : Option (Bool) :=
  some (a0.fFrom == a1)
set_option maxHeartbeats 4000000 in
set_option maxRecDepth 100000 in
theorem matrix_From_1_ac (a0 : api_Cell) (a1 : Int) (r : Bool) (h : matrix_From_1 a0 a1 = some r) : AC Try.prog 43 [(.d (e_api_Cell a0)), (.ptr 0 0 [])] [(0, (.box 3 (.d (.int .i64 a1))))] (.d (.bool r)) [(0, some (.box 3 (.d (.int .i64 a1))))] := by
  refine AC.of_code2 Try.func43 rfl rfl (Nat.le_of_ble_eq_true (by rfl)) fun B hB hN => ?_
  delta matrix_From_1 at h
  refine sr (cg (OpJ.box hB (nm := 1002) (by decide) (by simp) rfl (ltN hN rfl) (q 0)) rfl (c (OpJ.assign (ltN hN rfl) (Opd.bool false)) rfl cn)) ?_
  refine gh [(1, _), (2, _)] [(0, some _), (1002, some _)] hB rfl rfl (by rfl) ?_
  refine sr (c (ov (.ptr 1002 0 [0]) (fp hN Try.underlying23 0 tyS3 _ (q 2))) rfl (c (lb hN 23 _ _ tyS3 (ad _) (q 4)) rfl (c (lb hN 3 _ _ tyS3 (At.here _) (q 1)) rfl (c (OpJ.eqlI (ltN hN rfl) (q 5) (q 6)) rfl (c (OpJ.assign (ltN hN rfl) (q 7)) rfl cn))))) ?_
  refine gh [(3, _)] [(0, some _)] hB rfl rfl (by rfl) ?_
  refine AWp.ret ?_
  obtain rfl := Option.some.inj h
  exact ⟨.inl rfl, _, _, (kp [(3, _)] [(0, some _)] hB rfl rfl (by rfl)), [(bo (a0.fFrom == a1))], (Res.tmp (by rfl) (by rfl) Res.nil), rfl, by rfl, by rfl, by rfl⟩

noncomputable def matrix_sums_2_L0 (a0 : (List api_Cell)) (a1 : Int) (s1 : Int × Int × Int) : Option (((Int × Int)) ⊕ (Int × Int × Int)) :=
  (if (decide (s1.2.2 < (a0.length : Int))) = true then
  (idx a0 s1.2.2).bind fun x18 =>
  (matrix_From_1 x18 a1).bind fun r19 =>
  jn (fun m21 : Int × Int =>
  some (.inr (m21.1, m21.2, (w64 (s1.2.2 + (1 : Int)))))) (fun j22 =>
  (if r19 = true then
  j22 ((w64 (s1.1 + x18.fSamples)), (w64 (s1.2.1 + x18.fBytes)))
  else
  j22 (s1.1, s1.2.1)))
  else
  some (.inl (s1.1, s1.2.1)))
noncomputable def matrix_sums_2 (a0 : (List api_Cell)) (a1 : Int) : Option (Int × Int) :=
  (loop (matrix_sums_2_L0 a0 a1) ((0 : Int), (0 : Int), (0 : Int))).bind fun p16 =>
  some (p16.1, p16.2)
set_option maxHeartbeats 4000000 in
set_option maxRecDepth 100000 in
theorem matrix_sums_2_ac (a0 : (List api_Cell)) (a1 : Int) (r : Int × Int) (h : matrix_sums_2 a0 a1 = some r) : AC Try.prog 41 [(.d (.list 4 (a0.map e_api_Cell))), (.func 43 [(.ptr 0 0 [])])] [(0, (.box 3 (.d (.int .i64 a1))))] (.tup [(.d (.int .i64 r.1)), (.d (.int .i64 r.2))]) [(0, some (.box 3 (.d (.int .i64 a1))))] := by
  refine AC.of_code2 Try.func41 rfl rfl (Nat.le_of_ble_eq_true (by rfl)) fun B hB hN => ?_
  have L {d : Nat} (h : Nat.blt d Try.f41.ntmps = true) : d < B.N := ltN hN h
  delta matrix_sums_2 at h
  refine sr (c (OpJ.assign (L rfl) (Opd.int .i64 (0))) rfl (c (OpJ.assign (L rfl) (Opd.int .i64 (0))) rfl cn)) ?_
  refine gh [(0, _), (1, _)] [(0, some _)] hB rfl rfl (by rfl) ?_
  refine sr (c (OpJ.assign (L rfl) (Opd.int .i64 (0))) rfl (c (OpJ.assign (L rfl) (Opd.int .i64 (0))) rfl cn)) ?_
  refine gh [(0, _), (1, _), (6, _), (7, _)] [(0, some _)] hB rfl rfl (by rfl) ?_
  refine AWp.seq ?_
  refine sr (c (mv hN (q 0)) rfl (c (OpJ.val (v' := (i6 (a0.length : Int))) (by simp) (OpJ.lenD Try.underlying27 (L rfl) (q 10))) rfl (c (mv hN (Opd.int .i64 (0))) rfl cn))) ?_
  refine gh [(1, _), (6, _), (7, _), (10, _), (11, _), (12, _)] [(0, some _)] hB rfl rfl (by rfl) ?_
  refine AWp.block ?_
  obtain ⟨p16, hx25, h⟩ := bindS h
  refine lg (matrix_sums_2_L0 a0 a1) (fun s1 : Int × Int × Int => ([(1, (.func 43 [(.ptr 0 0 [])])), (6, (i6 s1.1)), (7, (i6 s1.2.1)), (10, (qe_api_Cell_4 a0)), (11, (i6 (a0.length : Int))), (12, (i6 s1.2.2))] : EL)) (fun s1 : Int × Int × Int => ([(0, some (.box 3 (i6 a1)))] : OL)) (fun (p16 : (Int × Int)) e E' O' => e = .exit 0 ∧ Mat B E' O' ([(6, (i6 p16.1)), (7, (i6 p16.2))] : EL) ([(0, some (.box 3 (i6 a1)))] : OL)) hx25 (mp [] _ _ hB) (fun s1 y h => ?_) (fun e E' O' hR => ?_)
  · unfold matrix_sums_2_L0 at h
    refine sr (c (OpJ.lss (L rfl) (q 12) (q 11)) rfl cn) ?_
    refine gh [(1, _), (6, _), (7, _), (10, _), (11, _), (12, _), (13, _)] [(0, some _)] hB rfl rfl (by rfl) ?_
    refine AWp.seq ?_
    refine AWp.cond rfl (fun hg17 => ?_) (fun hg17 => ?_)
    · replace h := ite_t hg17 h
      refine AWp.skip ?_
      refine seqQ_n ?_
      refine AWp.seq ?_
      refine AWp.block ?_
      obtain ⟨x18, hx18, h⟩ := bindS h
      refine sr (c (OpJ.indexD Try.underlying27 tyS23 (idx_some hx18).1 (get_map e_api_Cell (idx_some hx18).2) (L rfl) (q 10) (q 12)) rfl (c (OpJ.loadD tyS23 (by rfl) (by rfl) (L rfl) (q 14)) rfl (cg (OpJ.alloc hB tyZ23 (nm := 1009) (by decide) (L rfl)) rfl (cg (OpJ.storeB tyS23 (SetAt.here _ _) (by rfl) (by rfl) (by simp) rfl (q 9) (q 15)) rfl cn)))) ?_
      refine gh [(1, _), (6, _), (7, _), (9, _), (10, _), (11, _), (12, _)] [(0, some _), (1009, some _)] hB rfl rfl (by rfl) ?_
      refine AWp.seq ?_
      obtain ⟨r19, hr19, h⟩ := bindS h
      refine AWp.region (oc (mv hN (ot 1 (.func 43 [(.ptr 0 0 [])])))
        (oc (lb hN 23 (.d (e_api_Cell x18)) (.d (e_api_Cell x18)) tyS23 (At.here _) (ot 9 (.ptr 1009 0 [])))
        (oc (OpJ.callVal (args := [(.d (e_api_Cell x18))]) (caps := [(.ptr 0 0 [])]) hB fnOk43 [(0, 0)] (matrix_From_1_ac x18 a1 r19 hr19) (by kernel_rfl) (L rfl) (by kernel_rfl) (by kernel_rfl) (OpdL.cons (ot 17 (.d (e_api_Cell x18))) OpdL.nil))
        (OpJs.nil)))) (by rfl) (by rfl) ?_
      refine seqQ_n ?_
      refine AWp.ghost (mp [] [(1, (.func 43 [(.ptr 0 0 [])])), (6, (i6 s1.1)), (7, (i6 s1.2.1)), (9, (.ptr 1009 0 [])), (10, (qe_api_Cell_4 a0)), (11, (i6 (a0.length : Int))), (12, (i6 s1.2.2)), (18, (bo r19))] [(0, some (.box 3 (i6 a1))), (1009, some (.box 23 (.d (e_api_Cell x18))))] hB) ?_
      refine AWp.cut h (fun m21 : Int × Int => ([(1, (.func 43 [(.ptr 0 0 [])])), (6, (i6 m21.1)), (7, (i6 m21.2)), (10, (qe_api_Cell_4 a0)), (11, (i6 (a0.length : Int))), (12, (i6 s1.2.2))] : EL)) (fun m21 : Int × Int => ([(0, some (.box 3 (i6 a1)))] : OL)) (fun m21 h E' O' hmat => ?_) (fun j22 hjj22 h => ?_)
      · refine blkQ_n ?_
        refine seqQ_n ?_
        refine AWp.ghost hmat ?_
        refine rg (c (add6 (L rfl) (q 12) (Opd.int .i64 (1))) rfl (c (mv hN (q 27)) rfl cn)) ?_
        obtain rfl := Option.some.inj h
        exact ⟨rfl, (Mat.trans (mp [] [(1, (.func 43 [(.ptr 0 0 [])])), (6, (i6 m21.1)), (7, (i6 m21.2)), (10, (qe_api_Cell_4 a0)), (11, (i6 (a0.length : Int))), (12, (i6 (w64 (s1.2.2 + (1 : Int)))))] [(0, some (.box 3 (i6 a1)))] hB) (mp [] _ _ hB))⟩
      · refine AWp.cond rfl (fun hg23 => ?_) (fun hg23 => ?_)
        · replace h := ite_t hg23 h
          refine sr (c (mv hN (q 6)) rfl (c (ov (.ptr 1009 2 [2]) (fp hN Try.underlying23 2 tyS3 _ (q 9))) rfl (c (lb hN 23 _ _ tyS3 (ad _) (q 20)) rfl (c (add6 (L rfl) (q 19) (q 21)) rfl (c (OpJ.assign (L rfl) (q 22)) rfl cn))))) ?_
          refine gh [(1, _), (6, _), (7, _), (9, _), (10, _), (11, _), (12, _)] [(0, some _), (1009, some _)] hB rfl rfl (by rfl) ?_
          refine rg (c (mv hN (q 7)) rfl (c (ov (.ptr 1009 3 [3]) (fp hN Try.underlying23 3 tyS3 _ (q 9))) rfl (c (lb hN 23 _ _ tyS3 (ad _) (q 24)) rfl (c (add6 (L rfl) (q 23) (q 25)) rfl (c (OpJ.assign (L rfl) (q 26)) rfl cn))))) ?_
          exact hjj22 _ h _ _ (Mat.trans (mp [] [(1, (.func 43 [(.ptr 0 0 [])])), (6, (i6 (w64 (s1.1 + x18.fSamples)))), (7, (i6 (w64 (s1.2.1 + x18.fBytes)))), (10, (qe_api_Cell_4 a0)), (11, (i6 (a0.length : Int))), (12, (i6 s1.2.2))] [(0, some (.box 3 (i6 a1)))] hB) (mp [] _ _ hB))
        · replace h := ite_f hg23 h
          refine AWp.skip ?_
          exact hjj22 _ h _ _ (mp [] _ _ hB)
    · replace h := ite_f hg17 h
      refine AWp.exit ?_
      refine seqQ_e ?_
      obtain rfl := Option.some.inj h
      exact ⟨(fun hc => by cases hc), rfl, (mp [] _ _ hB)⟩
  · obtain ⟨rfl, hmat⟩ := hR
    refine blkQ_hit ?_
    refine seqQ_n ?_
    refine AWp.ghost hmat ?_
    refine sr (c (mv hN (q 6)) rfl (c (mv hN (q 7)) rfl (c (OpJ.assign (L rfl) (q 28)) rfl (c (OpJ.assign (L rfl) (q 29)) rfl cn)))) ?_
    refine gh [(4, _), (5, _)] [(0, some _)] hB rfl rfl (by rfl) ?_
    refine AWp.ret ?_
    obtain rfl := Option.some.inj h
    exact ⟨.inl rfl, _, _, (kp [(4, _), (5, _)] [(0, some _)] hB rfl rfl (by rfl)), [(i6 p16.1), (i6 p16.2)], (Res.tmp (by rfl) (by rfl) (Res.tmp (by rfl) (by rfl) Res.nil)), rfl, by rfl, by rfl, by rfl⟩

noncomputable def matrix_From (a0 : (List api_Cell)) (a1 : Int) : Option (Int × Int) :=
  (matrix_sums_2 a0 a1).bind fun r1 =>
  some (r1.1, r1.2)
set_option maxHeartbeats 4000000 in
set_option maxRecDepth 100000 in
theorem matrix_From_ac (a0 : (List api_Cell)) (a1 : Int) (r : Int × Int) (h : matrix_From a0 a1 = some r) : AC Try.prog 23 [(.d (.list 4 (a0.map e_api_Cell))), (.d (.int .i64 a1))] [] (.tup [(.d (.int .i64 r.1)), (.d (.int .i64 r.2))]) [] := by
  refine AC.of_code2 Try.func23 rfl rfl (Nat.le_of_ble_eq_true (by rfl)) fun B hB hN => ?_
  delta matrix_From at h
  refine sr (cg (OpJ.box hB (nm := 1003) (by decide) (by simp) rfl (ltN hN rfl) (q 1)) rfl (c (OpJ.assign (ltN hN rfl) (Opd.int .i64 (0))) rfl (c (OpJ.assign (ltN hN rfl) (Opd.int .i64 (0))) rfl cn))) ?_
  refine gh [(0, _), (3, _)] [(1003, some _)] hB rfl rfl (by rfl) ?_
  refine AWp.seq ?_
  obtain ⟨r1, hr1, h⟩ := bindS h
  refine AWp.region (oc (mv hN (ot 0 (qe_api_Cell_4 a0)))
  (oc (OpJ.makeF (OpdL.cons (ot 3 (.ptr 1003 0 [])) OpdL.nil) rfl rfl (ltN hN rfl))
  (oc (OpJ.callFn hB fnOk41 (matrix_sums_2_ac a0 a1 r1 hr1) [(0, 1003)] (by kernel_rfl) (ltN hN rfl) (by kernel_rfl) (OpdL.cons (ot 6 (qe_api_Cell_4 a0)) (OpdL.cons (ot 7 (.func 43 [(.ptr 1003 0 [])])) OpdL.nil)))
  (oc (OpJ.extract (v := (i6 r1.1)) (by rfl) rfl (ltN hN rfl) (ot 8 (.tup [(i6 r1.1), (i6 r1.2)])))
  (oc (OpJ.extract (v := (i6 r1.2)) (by rfl) rfl (ltN hN rfl) (ot 8 (.tup [(i6 r1.1), (i6 r1.2)])))
  (oc (OpJ.assign (ltN hN rfl) (ot 9 (i6 r1.1)))
  (oc (OpJ.assign (ltN hN rfl) (ot 10 (i6 r1.2)))
  (OpJs.nil)))))))) (by rfl) (by rfl) ?_
  refine seqQ_n ?_
  refine AWp.ghost (mp [] [(4, (i6 r1.1)), (5, (i6 r1.2))] [] hB) ?_
  refine AWp.ret ?_
  obtain rfl := Option.some.inj h
  exact ⟨.inl rfl, _, _, (kp [(4, _), (5, _)] [] hB rfl rfl (by rfl)), [(i6 r1.1), (i6 r1.2)], (Res.tmp (by rfl) (by rfl) (Res.tmp (by rfl) (by rfl) Res.nil)), rfl, by rfl, by rfl, by rfl⟩

noncomputable def exchangepointref38_From_L0 (a0 : (List api_Cell)) (a1 : Int) (s1 : Int × (List api_Cell)) : Option ((((List api_Cell))) ⊕ (Int × (List api_Cell))) :=
  (if (decide (s1.1 < (a0.length : Int))) = true then
  (idx a0 s1.1).bind fun x20 =>
  jn (fun m23 : (List api_Cell) =>
  some (.inr ((w64 (s1.1 + (1 : Int))), m23))) (fun j24 =>
  (if (x20.fFrom == a1) = true then
  chk (decide ((s1.2 ++ ([x20] : List api_Cell)).length ≤ LIM)) <|
  j24 (s1.2 ++ ([x20] : List api_Cell))
  else
  j24 s1.2))
  else
  some (.inl s1.2))
noncomputable def exchangepointref38_From (a0 : (List api_Cell)) (a1 : Int) : Option (Int × Int) :=
  (loop (exchangepointref38_From_L0 a0 a1) ((0 : Int), ([] : List api_Cell))).bind fun p18 =>
  (exchangepointref38_Total p18).bind fun r29 =>
  some (r29.1, r29.2)
set_option maxHeartbeats 4000000 in
set_option maxRecDepth 100000 in
theorem exchangepointref38_From_ac (a0 : (List api_Cell)) (a1 : Int) (r : Int × Int) (h : exchangepointref38_From a0 a1 = some r) : AC Try.prog 24 [(.d (.list 4 (a0.map e_api_Cell))), (.d (.int .i64 a1))] [] (.tup [(.d (.int .i64 r.1)), (.d (.int .i64 r.2))]) [] := by
  refine AC.of_code2 Try.func24 rfl rfl (Nat.le_of_ble_eq_true (by rfl)) fun B hB hN => ?_
  have L {d : Nat} (h : Nat.blt d Try.f24.ntmps = true) : d < B.N := ltN hN h
  delta exchangepointref38_From at h
  refine sr (c (OpJ.assign (L rfl) (Opd.int .i64 (0))) rfl (c (OpJ.assign (L rfl) (Opd.int .i64 (0))) rfl cn)) ?_
  refine gh [(0, _), (1, _)] [] hB rfl rfl (by rfl) ?_
  refine sr (c (OpJ.assign (L rfl) Opd.nils) rfl cn) ?_
  refine gh [(0, _), (1, _), (6, _)] [] hB rfl rfl (by rfl) ?_
  refine AWp.seq ?_
  refine sr (c (mv hN (q 0)) rfl (c (OpJ.val (v' := (i6 (a0.length : Int))) (by simp) (OpJ.lenD Try.underlying27 (L rfl) (q 9))) rfl (c (mv hN (Opd.int .i64 (0))) rfl cn))) ?_
  refine gh [(1, _), (6, _), (9, _), (10, _), (11, _)] [] hB rfl rfl (by rfl) ?_
  refine AWp.block ?_
  obtain ⟨p18, hx28, h⟩ := bindS h
  refine lg (exchangepointref38_From_L0 a0 a1) (fun s1 : Int × (List api_Cell) => ([(1, (i6 a1)), (6, (.sref 3006 4 0 s1.2.length)), (9, (qe_api_Cell_4 a0)), (10, (i6 (a0.length : Int))), (11, (i6 s1.1))] : EL)) (fun s1 : Int × (List api_Cell) => ([(3006, some (we_api_Cell_23_4 s1.2))] : OL)) (fun (p18 : ((List api_Cell))) e E' O' => e = .exit 0 ∧ Mat B E' O' ([(6, (.sref 3006 4 0 p18.length))] : EL) ([(3006, some (we_api_Cell_23_4 p18))] : OL)) hx28 (Mat.trans (Mat.beginP (n := 3006) (e := 23) (sz := 4) (Ts := [(6, (.sref 3006 4 0 0))]) (Bs := []) hB (by decide) (by rfl) (by decide) (TwT.cons (x := .nils) (by rfl) (Tw.leaf ⟨rfl, rfl⟩) TwT.nil) TwB.nil) (mp [] _ _ hB)) (fun s1 y h => ?_) (fun e E' O' hR => ?_)
  · unfold exchangepointref38_From_L0 at h
    refine sr (c (OpJ.lss (L rfl) (q 11) (q 10)) rfl cn) ?_
    refine gh [(1, _), (6, _), (9, _), (10, _), (11, _), (12, _)] [(3006, some _)] hB rfl rfl (by rfl) ?_
    refine AWp.seq ?_
    refine AWp.cond rfl (fun hg19 => ?_) (fun hg19 => ?_)
    · replace h := ite_t hg19 h
      refine AWp.skip ?_
      refine seqQ_n ?_
      refine AWp.seq ?_
      refine AWp.block ?_
      obtain ⟨x20, hx20, h⟩ := bindS h
      refine sr (c (OpJ.indexD Try.underlying27 tyS23 (idx_some hx20).1 (get_map e_api_Cell (idx_some hx20).2) (L rfl) (q 9) (q 11)) rfl (c (OpJ.loadD tyS23 (by rfl) (by rfl) (L rfl) (q 13)) rfl (cg (OpJ.alloc hB tyZ23 (nm := 1008) (by decide) (L rfl)) rfl (cg (OpJ.storeB tyS23 (SetAt.here _ _) (by rfl) (by rfl) (by simp) rfl (q 8) (q 14)) rfl cn)))) ?_
      refine gh [(1, _), (6, _), (8, _), (9, _), (10, _), (11, _)] [(1008, some _), (3006, some _)] hB rfl rfl (by rfl) ?_
      refine sr (c (ov (.ptr 1008 0 [0]) (fp hN Try.underlying23 0 tyS3 _ (q 8))) rfl (c (lb hN 23 _ _ tyS3 (ad _) (q 15)) rfl (c (mv hN (q 1)) rfl (c (OpJ.eqlI (L rfl) (q 16) (q 17)) rfl cn)))) ?_
      refine gh [(1, _), (6, _), (8, _), (9, _), (10, _), (11, _), (18, _)] [(1008, some _), (3006, some _)] hB rfl rfl (by rfl) ?_
      refine AWp.cut h (fun m23 : (List api_Cell) => ([(1, (i6 a1)), (6, (.sref 3006 4 0 m23.length)), (9, (qe_api_Cell_4 a0)), (10, (i6 (a0.length : Int))), (11, (i6 s1.1))] : EL)) (fun m23 : (List api_Cell) => ([(3006, some (we_api_Cell_23_4 m23))] : OL)) (fun m23 h E' O' hmat => ?_) (fun j24 hjj24 h => ?_)
      · refine blkQ_n ?_
        refine seqQ_n ?_
        refine AWp.ghost hmat ?_
        refine rg (c (add6 (L rfl) (q 11) (Opd.int .i64 (1))) rfl (c (mv hN (q 23)) rfl cn)) ?_
        obtain rfl := Option.some.inj h
        exact ⟨rfl, (Mat.trans (mp [] [(1, (i6 a1)), (6, (.sref 3006 4 0 m23.length)), (9, (qe_api_Cell_4 a0)), (10, (i6 (a0.length : Int))), (11, (i6 (w64 (s1.1 + (1 : Int)))))] [(3006, some (we_api_Cell_23_4 m23))] hB) (mp [] _ _ hB))⟩
      · refine AWp.cond rfl (fun hg25 => ?_) (fun hg25 => ?_)
        · replace h := ite_t hg25 h
          obtain ⟨hc26, h⟩ := chk_some h
          refine rg (c (mv hN (q 6)) rfl (c (lb hN 23 _ _ tyS23 (At.here _) (q 8)) rfl (c (OpJ.buildSlice Try.underlying27 tyS23 tyZD23 (by rfl) (by decide) (by decide) (Opds.cons (q 20) Opds.nil) (by kernel_rfl) (es := ([(e_api_Cell x20)] : List D)) (by rfl) (by rfl) (by kernel_rfl) (by simp) (L rfl)) rfl (cg (OpJ.append hB Try.underlying27 tyE23 (nm := 1022) (by decide) (es := s1.2.map e_api_Cell) (ys := ([x20] : List api_Cell).map e_api_Cell) (es' := (s1.2 ++ ([x20] : List api_Cell)).map e_api_Cell) (len := (s1.2 ++ ([x20] : List api_Cell)).length) (by simp) (by simp) (map_sz (f := e_api_Cell) (fun _ => rfl)) (by rw [List.length_map]; exact lim_mulN hc26 (by decide)) (by rw [List.length_map]; exact lim_leN hc26) (L rfl) (by simp) (q 19) (q 21)) rfl (c (OpJ.assign (L rfl) (q 22)) rfl cn))))) ?_
          exact hjj24 _ h _ _ (Mat.trans (mp [] [(1, (i6 a1)), (6, (.sref 1022 4 0 ((s1.2 ++ ([x20] : List api_Cell)).length))), (9, (qe_api_Cell_4 a0)), (10, (i6 (a0.length : Int))), (11, (i6 s1.1))] [(1022, some (we_api_Cell_23_4 (s1.2 ++ ([x20] : List api_Cell))))] hB) (mp [(3006, 1022)] _ _ hB))
        · replace h := ite_f hg25 h
          refine AWp.skip ?_
          exact hjj24 _ h _ _ (mp [] _ _ hB)
    · replace h := ite_f hg19 h
      refine AWp.exit ?_
      refine seqQ_e ?_
      obtain rfl := Option.some.inj h
      exact ⟨(fun hc => by cases hc), rfl, (mp [] _ _ hB)⟩
  · obtain ⟨rfl, hmat⟩ := hR
    refine blkQ_hit ?_
    refine seqQ_n ?_
    refine AWp.ghost hmat ?_
    refine AWp.seq ?_
    refine AWp.ghost (Mat.freezeP (n := 3006) (e := 23) (sz := 4) (es := p18.map e_api_Cell) (Ts := [(6, (qe_api_Cell_4 p18))]) (Bs := []) (by rfl) (TwT.cons (x := (.sref 3006 4 0 p18.length)) (by rfl) (FrzL.all (by first | rfl | (simp; done) | (simp; omega))) TwT.nil) TwB.nil) ?_
    obtain ⟨r29, hr29, h⟩ := bindS h
    refine rg (c (mv hN (q 6)) rfl (cg (OpJ.callFn hB fnOk22 (exchangepointref38_Total_ac p18 r29 hr29) [] (by kernel_rfl) (L rfl) (by kernel_rfl) (OpdL.cons (q 24) OpdL.nil)) rfl (c (OpJ.extract (by rfl) rfl (L rfl) (q 25)) rfl (c (OpJ.extract (by rfl) rfl (L rfl) (q 25)) rfl (c (OpJ.assign (L rfl) (q 26)) rfl (c (OpJ.assign (L rfl) (q 27)) rfl cn)))))) ?_
    refine seqQ_n ?_
    refine gh [(4, _), (5, _)] [] hB rfl rfl (by rfl) ?_
    refine AWp.ret ?_
    obtain rfl := Option.some.inj h
    exact ⟨.inl rfl, _, _, (kp [(4, _), (5, _)] [] hB rfl rfl (by rfl)), [(i6 r29.1), (i6 r29.2)], (Res.tmp (by rfl) (by rfl) (Res.tmp (by rfl) (by rfl) Res.nil)), rfl, by rfl, by rfl, by rfl⟩

noncomputable def matrix_To_1 (a0 : api_Cell) (a1 : Int) : Option (Bool) :=
  some (a0.fTo == a1)
set_option maxHeartbeats 4000000 in
set_option maxRecDepth 100000 in
theorem matrix_To_1_ac (a0 : api_Cell) (a1 : Int) (r : Bool) (h : matrix_To_1 a0 a1 = some r) : AC Try.prog 44 [(.d (e_api_Cell a0)), (.ptr 0 0 [])] [(0, (.box 3 (.d (.int .i64 a1))))] (.d (.bool r)) [(0, some (.box 3 (.d (.int .i64 a1))))] := by
  refine AC.of_code2 Try.func44 rfl rfl (Nat.le_of_ble_eq_true (by rfl)) fun B hB hN => ?_
  delta matrix_To_1 at h
  refine sr (cg (OpJ.box hB (nm := 1002) (by decide) (by simp) rfl (ltN hN rfl) (q 0)) rfl (c (OpJ.assign (ltN hN rfl) (Opd.bool false)) rfl cn)) ?_
  refine gh [(1, _), (2, _)] [(0, some _), (1002, some _)] hB rfl rfl (by rfl) ?_
  refine sr (c (ov (.ptr 1002 1 [1]) (fp hN Try.underlying23 1 tyS3 _ (q 2))) rfl (c (lb hN 23 _ _ tyS3 (ad _) (q 4)) rfl (c (lb hN 3 _ _ tyS3 (At.here _) (q 1)) rfl (c (OpJ.eqlI (ltN hN rfl) (q 5) (q 6)) rfl (c (OpJ.assign (ltN hN rfl) (q 7)) rfl cn))))) ?_
  refine gh [(3, _)] [(0, some _)] hB rfl rfl (by rfl) ?_
  refine AWp.ret ?_
  obtain rfl := Option.some.inj h
  exact ⟨.inl rfl, _, _, (kp [(3, _)] [(0, some _)] hB rfl rfl (by rfl)), [(bo (a0.fTo == a1))], (Res.tmp (by rfl) (by rfl) Res.nil), rfl, by rfl, by rfl, by rfl⟩

noncomputable def matrix_sums_3_L0 (a0 : (List api_Cell)) (a1 : Int) (s1 : Int × Int × Int) : Option (((Int × Int)) ⊕ (Int × Int × Int)) :=
  (if (decide (s1.2.2 < (a0.length : Int))) = true then
  (idx a0 s1.2.2).bind fun x18 =>
  (matrix_To_1 x18 a1).bind fun r19 =>
  jn (fun m21 : Int × Int =>
  some (.inr (m21.1, m21.2, (w64 (s1.2.2 + (1 : Int)))))) (fun j22 =>
  (if r19 = true then
  j22 ((w64 (s1.1 + x18.fSamples)), (w64 (s1.2.1 + x18.fBytes)))
  else
  j22 (s1.1, s1.2.1)))
  else
  some (.inl (s1.1, s1.2.1)))
noncomputable def matrix_sums_3 (a0 : (List api_Cell)) (a1 : Int) : Option (Int × Int) :=
  (loop (matrix_sums_3_L0 a0 a1) ((0 : Int), (0 : Int), (0 : Int))).bind fun p16 =>
  some (p16.1, p16.2)
set_option maxHeartbeats 4000000 in
set_option maxRecDepth 100000 in
theorem matrix_sums_3_ac (a0 : (List api_Cell)) (a1 : Int) (r : Int × Int) (h : matrix_sums_3 a0 a1 = some r) : AC Try.prog 41 [(.d (.list 4 (a0.map e_api_Cell))), (.func 44 [(.ptr 0 0 [])])] [(0, (.box 3 (.d (.int .i64 a1))))] (.tup [(.d (.int .i64 r.1)), (.d (.int .i64 r.2))]) [(0, some (.box 3 (.d (.int .i64 a1))))] := by
  refine AC.of_code2 Try.func41 rfl rfl (Nat.le_of_ble_eq_true (by rfl)) fun B hB hN => ?_
  have L {d : Nat} (h : Nat.blt d Try.f41.ntmps = true) : d < B.N := ltN hN h
  delta matrix_sums_3 at h
  refine sr (c (OpJ.assign (L rfl) (Opd.int .i64 (0))) rfl (c (OpJ.assign (L rfl) (Opd.int .i64 (0))) rfl cn)) ?_
  refine gh [(0, _), (1, _)] [(0, some _)] hB rfl rfl (by rfl) ?_
  refine sr (c (OpJ.assign (L rfl) (Opd.int .i64 (0))) rfl (c (OpJ.assign (L rfl) (Opd.int .i64 (0))) rfl cn)) ?_
  refine gh [(0, _), (1, _), (6, _), (7, _)] [(0, some _)] hB rfl rfl (by rfl) ?_
  refine AWp.seq ?_
  refine sr (c (mv hN (q 0)) rfl (c (OpJ.val (v' := (i6 (a0.length : Int))) (by simp) (OpJ.lenD Try.underlying27 (L rfl) (q 10))) rfl (c (mv hN (Opd.int .i64 (0))) rfl cn))) ?_
  refine gh [(1, _), (6, _), (7, _), (10, _), (11, _), (12, _)] [(0, some _)] hB rfl rfl (by rfl) ?_
  refine AWp.block ?_
  obtain ⟨p16, hx25, h⟩ := bindS h
  refine lg (matrix_sums_3_L0 a0 a1) (fun s1 : Int × Int × Int => ([(1, (.func 44 [(.ptr 0 0 [])])), (6, (i6 s1.1)), (7, (i6 s1.2.1)), (10, (qe_api_Cell_4 a0)), (11, (i6 (a0.length : Int))), (12, (i6 s1.2.2))] : EL)) (fun s1 : Int × Int × Int => ([(0, some (.box 3 (i6 a1)))] : OL)) (fun (p16 : (Int × Int)) e E' O' => e = .exit 0 ∧ Mat B E' O' ([(6, (i6 p16.1)), (7, (i6 p16.2))] : EL) ([(0, some (.box 3 (i6 a1)))] : OL)) hx25 (mp [] _ _ hB) (fun s1 y h => ?_) (fun e E' O' hR => ?_)
  · unfold matrix_sums_3_L0 at h
    refine sr (c (OpJ.lss (L rfl) (q 12) (q 11)) rfl cn) ?_
    refine gh [(1, _), (6, _), (7, _), (10, _), (11, _), (12, _), (13, _)] [(0, some _)] hB rfl rfl (by rfl) ?_
    refine AWp.seq ?_
    refine AWp.cond rfl (fun hg17 => ?_) (fun hg17 => ?_)
    · replace h := ite_t hg17 h
      refine AWp.skip ?_
      refine seqQ_n ?_
      refine AWp.seq ?_
      refine AWp.block ?_
      obtain ⟨x18, hx18, h⟩ := bindS h
      refine sr (c (OpJ.indexD Try.underlying27 tyS23 (idx_some hx18).1 (get_map e_api_Cell (idx_some hx18).2) (L rfl) (q 10) (q 12)) rfl (c (OpJ.loadD tyS23 (by rfl) (by rfl) (L rfl) (q 14)) rfl (cg (OpJ.alloc hB tyZ23 (nm := 1009) (by decide) (L rfl)) rfl (cg (OpJ.storeB tyS23 (SetAt.here _ _) (by rfl) (by rfl) (by simp) rfl (q 9) (q 15)) rfl cn)))) ?_
      refine gh [(1, _), (6, _), (7, _), (9, _), (10, _), (11, _), (12, _)] [(0, some _), (1009, some _)] hB rfl rfl (by rfl) ?_
      refine AWp.seq ?_
      obtain ⟨r19, hr19, h⟩ := bindS h
      refine AWp.region (oc (mv hN (ot 1 (.func 44 [(.ptr 0 0 [])])))
        (oc (lb hN 23 (.d (e_api_Cell x18)) (.d (e_api_Cell x18)) tyS23 (At.here _) (ot 9 (.ptr 1009 0 [])))
        (oc (OpJ.callVal (args := [(.d (e_api_Cell x18))]) (caps := [(.ptr 0 0 [])]) hB fnOk44 [(0, 0)] (matrix_To_1_ac x18 a1 r19 hr19) (by kernel_rfl) (L rfl) (by kernel_rfl) (by kernel_rfl) (OpdL.cons (ot 17 (.d (e_api_Cell x18))) OpdL.nil))
        (OpJs.nil)))) (by rfl) (by rfl) ?_
      refine seqQ_n ?_
      refine AWp.ghost (mp [] [(1, (.func 44 [(.ptr 0 0 [])])), (6, (i6 s1.1)), (7, (i6 s1.2.1)), (9, (.ptr 1009 0 [])), (10, (qe_api_Cell_4 a0)), (11, (i6 (a0.length : Int))), (12, (i6 s1.2.2)), (18, (bo r19))] [(0, some (.box 3 (i6 a1))), (1009, some (.box 23 (.d (e_api_Cell x18))))] hB) ?_
      refine AWp.cut h (fun m21 : Int × Int => ([(1, (.func 44 [(.ptr 0 0 [])])), (6, (i6 m21.1)), (7, (i6 m21.2)), (10, (qe_api_Cell_4 a0)), (11, (i6 (a0.length : Int))), (12, (i6 s1.2.2))] : EL)) (fun m21 : Int × Int => ([(0, some (.box 3 (i6 a1)))] : OL)) (fun m21 h E' O' hmat => ?_) (fun j22 hjj22 h => ?_)
      · refine blkQ_n ?_
        refine seqQ_n ?_
        refine AWp.ghost hmat ?_
        refine rg (c (add6 (L rfl) (q 12) (Opd.int .i64 (1))) rfl (c (mv hN (q 27)) rfl cn)) ?_
        obtain rfl := Option.some.inj h
        exact ⟨rfl, (Mat.trans (mp [] [(1, (.func 44 [(.ptr 0 0 [])])), (6, (i6 m21.1)), (7, (i6 m21.2)), (10, (qe_api_Cell_4 a0)), (11, (i6 (a0.length : Int))), (12, (i6 (w64 (s1.2.2 + (1 : Int)))))] [(0, some (.box 3 (i6 a1)))] hB) (mp [] _ _ hB))⟩
      · refine AWp.cond rfl (fun hg23 => ?_) (fun hg23 => ?_)
        · replace h := ite_t hg23 h
          refine sr (c (mv hN (q 6)) rfl (c (ov (.ptr 1009 2 [2]) (fp hN Try.underlying23 2 tyS3 _ (q 9))) rfl (c (lb hN 23 _ _ tyS3 (ad _) (q 20)) rfl (c (add6 (L rfl) (q 19) (q 21)) rfl (c (OpJ.assign (L rfl) (q 22)) rfl cn))))) ?_
          refine gh [(1, _), (6, _), (7, _), (9, _), (10, _), (11, _), (12, _)] [(0, some _), (1009, some _)] hB rfl rfl (by rfl) ?_
          refine rg (c (mv hN (q 7)) rfl (c (ov (.ptr 1009 3 [3]) (fp hN Try.underlying23 3 tyS3 _ (q 9))) rfl (c (lb hN 23 _ _ tyS3 (ad _) (q 24)) rfl (c (add6 (L rfl) (q 23) (q 25)) rfl (c (OpJ.assign (L rfl) (q 26)) rfl cn))))) ?_
          exact hjj22 _ h _ _ (Mat.trans (mp [] [(1, (.func 44 [(.ptr 0 0 [])])), (6, (i6 (w64 (s1.1 + x18.fSamples)))), (7, (i6 (w64 (s1.2.1 + x18.fBytes)))), (10, (qe_api_Cell_4 a0)), (11, (i6 (a0.length : Int))), (12, (i6 s1.2.2))] [(0, some (.box 3 (i6 a1)))] hB) (mp [] _ _ hB))
        · replace h := ite_f hg23 h
          refine AWp.skip ?_
          exact hjj22 _ h _ _ (mp [] _ _ hB)
    · replace h := ite_f hg17 h
      refine AWp.exit ?_
      refine seqQ_e ?_
      obtain rfl := Option.some.inj h
      exact ⟨(fun hc => by cases hc), rfl, (mp [] _ _ hB)⟩
  · obtain ⟨rfl, hmat⟩ := hR
    refine blkQ_hit ?_
    refine seqQ_n ?_
    refine AWp.ghost hmat ?_
    refine sr (c (mv hN (q 6)) rfl (c (mv hN (q 7)) rfl (c (OpJ.assign (L rfl) (q 28)) rfl (c (OpJ.assign (L rfl) (q 29)) rfl cn)))) ?_
    refine gh [(4, _), (5, _)] [(0, some _)] hB rfl rfl (by rfl) ?_
    refine AWp.ret ?_
    obtain rfl := Option.some.inj h
    exact ⟨.inl rfl, _, _, (kp [(4, _), (5, _)] [(0, some _)] hB rfl rfl (by rfl)), [(i6 p16.1), (i6 p16.2)], (Res.tmp (by rfl) (by rfl) (Res.tmp (by rfl) (by rfl) Res.nil)), rfl, by rfl, by rfl, by rfl⟩

noncomputable def matrix_To (a0 : (List api_Cell)) (a1 : Int) : Option (Int × Int) :=
  (matrix_sums_3 a0 a1).bind fun r1 =>
  some (r1.1, r1.2)
set_option maxHeartbeats 4000000 in
set_option maxRecDepth 100000 in
theorem matrix_To_ac (a0 : (List api_Cell)) (a1 : Int) (r : Int × Int) (h : matrix_To a0 a1 = some r) : AC Try.prog 25 [(.d (.list 4 (a0.map e_api_Cell))), (.d (.int .i64 a1))] [] (.tup [(.d (.int .i64 r.1)), (.d (.int .i64 r.2))]) [] := by
  refine AC.of_code2 Try.func25 rfl rfl (Nat.le_of_ble_eq_true (by rfl)) fun B hB hN => ?_
  delta matrix_To at h
  refine sr (cg (OpJ.box hB (nm := 1003) (by decide) (by simp) rfl (ltN hN rfl) (q 1)) rfl (c (OpJ.assign (ltN hN rfl) (Opd.int .i64 (0))) rfl (c (OpJ.assign (ltN hN rfl) (Opd.int .i64 (0))) rfl cn))) ?_
  refine gh [(0, _), (3, _)] [(1003, some _)] hB rfl rfl (by rfl) ?_
  refine AWp.seq ?_
  obtain ⟨r1, hr1, h⟩ := bindS h
  refine AWp.region (oc (mv hN (ot 0 (qe_api_Cell_4 a0)))
  (oc (OpJ.makeF (OpdL.cons (ot 3 (.ptr 1003 0 [])) OpdL.nil) rfl rfl (ltN hN rfl))
  (oc (OpJ.callFn hB fnOk41 (matrix_sums_3_ac a0 a1 r1 hr1) [(0, 1003)] (by kernel_rfl) (ltN hN rfl) (by kernel_rfl) (OpdL.cons (ot 6 (qe_api_Cell_4 a0)) (OpdL.cons (ot 7 (.func 44 [(.ptr 1003 0 [])])) OpdL.nil)))
  (oc (OpJ.extract (v := (i6 r1.1)) (by rfl) rfl (ltN hN rfl) (ot 8 (.tup [(i6 r1.1), (i6 r1.2)])))
  (oc (OpJ.extract (v := (i6 r1.2)) (by rfl) rfl (ltN hN rfl) (ot 8 (.tup [(i6 r1.1), (i6 r1.2)])))
  (oc (OpJ.assign (ltN hN rfl) (ot 9 (i6 r1.1)))
  (oc (OpJ.assign (ltN hN rfl) (ot 10 (i6 r1.2)))
  (OpJs.nil)))))))) (by rfl) (by rfl) ?_
  refine seqQ_n ?_
  refine AWp.ghost (mp [] [(4, (i6 r1.1)), (5, (i6 r1.2))] [] hB) ?_
  refine AWp.ret ?_
  obtain rfl := Option.some.inj h
  exact ⟨.inl rfl, _, _, (kp [(4, _), (5, _)] [] hB rfl rfl (by rfl)), [(i6 r1.1), (i6 r1.2)], (Res.tmp (by rfl) (by rfl) (Res.tmp (by rfl) (by rfl) Res.nil)), rfl, by rfl, by rfl, by rfl⟩

noncomputable def exchangepointref38_To_L0 (a0 : (List api_Cell)) (a1 : Int) (s1 : Int × (List api_Cell)) : Option ((((List api_Cell))) ⊕ (Int × (List api_Cell))) :=
  (if (decide (s1.1 < (a0.length : Int))) = true then
  (idx a0 s1.1).bind fun x20 =>
  jn (fun m23 : (List api_Cell) =>
  some (.inr ((w64 (s1.1 + (1 : Int))), m23))) (fun j24 =>
  (if (x20.fTo == a1) = true then
  chk (decide ((s1.2 ++ ([x20] : List api_Cell)).length ≤ LIM)) <|
  j24 (s1.2 ++ ([x20] : List api_Cell))
  else
  j24 s1.2))
  else
  some (.inl s1.2))
noncomputable def exchangepointref38_To (a0 : (List api_Cell)) (a1 : Int) : Option (Int × Int) :=
  (loop (exchangepointref38_To_L0 a0 a1) ((0 : Int), ([] : List api_Cell))).bind fun p18 =>
  (exchangepointref38_Total p18).bind fun r29 =>
  some (r29.1, r29.2)
set_option maxHeartbeats 4000000 in
set_option maxRecDepth 100000 in
theorem exchangepointref38_To_ac (a0 : (List api_Cell)) (a1 : Int) (r : Int × Int) (h : exchangepointref38_To a0 a1 = some r) : AC Try.prog 26 [(.d (.list 4 (a0.map e_api_Cell))), (.d (.int .i64 a1))] [] (.tup [(.d (.int .i64 r.1)), (.d (.int .i64 r.2))]) [] := by
  refine AC.of_code2 Try.func26 rfl rfl (Nat.le_of_ble_eq_true (by rfl)) fun B hB hN => ?_
  have L {d : Nat} (h : Nat.blt d Try.f26.ntmps = true) : d < B.N := ltN hN h
  delta exchangepointref38_To at h
  refine sr (c (OpJ.assign (L rfl) (Opd.int .i64 (0))) rfl (c (OpJ.assign (L rfl) (Opd.int .i64 (0))) rfl cn)) ?_
  refine gh [(0, _), (1, _)] [] hB rfl rfl (by rfl) ?_
  refine sr (c (OpJ.assign (L rfl) Opd.nils) rfl cn) ?_
  refine gh [(0, _), (1, _), (6, _)] [] hB rfl rfl (by rfl) ?_
  refine AWp.seq ?_
  refine sr (c (mv hN (q 0)) rfl (c (OpJ.val (v' := (i6 (a0.length : Int))) (by simp) (OpJ.lenD Try.underlying27 (L rfl) (q 9))) rfl (c (mv hN (Opd.int .i64 (0))) rfl cn))) ?_
  refine gh [(1, _), (6, _), (9, _), (10, _), (11, _)] [] hB rfl rfl (by rfl) ?_
  refine AWp.block ?_
  obtain ⟨p18, hx28, h⟩ := bindS h
  refine lg (exchangepointref38_To_L0 a0 a1) (fun s1 : Int × (List api_Cell) => ([(1, (i6 a1)), (6, (.sref 3006 4 0 s1.2.length)), (9, (qe_api_Cell_4 a0)), (10, (i6 (a0.length : Int))), (11, (i6 s1.1))] : EL)) (fun s1 : Int × (List api_Cell) => ([(3006, some (we_api_Cell_23_4 s1.2))] : OL)) (fun (p18 : ((List api_Cell))) e E' O' => e = .exit 0 ∧ Mat B E' O' ([(6, (.sref 3006 4 0 p18.length))] : EL) ([(3006, some (we_api_Cell_23_4 p18))] : OL)) hx28 (Mat.trans (Mat.beginP (n := 3006) (e := 23) (sz := 4) (Ts := [(6, (.sref 3006 4 0 0))]) (Bs := []) hB (by decide) (by rfl) (by decide) (TwT.cons (x := .nils) (by rfl) (Tw.leaf ⟨rfl, rfl⟩) TwT.nil) TwB.nil) (mp [] _ _ hB)) (fun s1 y h => ?_) (fun e E' O' hR => ?_)
  · unfold exchangepointref38_To_L0 at h
    refine sr (c (OpJ.lss (L rfl) (q 11) (q 10)) rfl cn) ?_
    refine gh [(1, _), (6, _), (9, _), (10, _), (11, _), (12, _)] [(3006, some _)] hB rfl rfl (by rfl) ?_
    refine AWp.seq ?_
    refine AWp.cond rfl (fun hg19 => ?_) (fun hg19 => ?_)
    · replace h := ite_t hg19 h
      refine AWp.skip ?_
      refine seqQ_n ?_
      refine AWp.seq ?_
      refine AWp.block ?_
      obtain ⟨x20, hx20, h⟩ := bindS h
      refine sr (c (OpJ.indexD Try.underlying27 tyS23 (idx_some hx20).1 (get_map e_api_Cell (idx_some hx20).2) (L rfl) (q 9) (q 11)) rfl (c (OpJ.loadD tyS23 (by rfl) (by rfl) (L rfl) (q 13)) rfl (cg (OpJ.alloc hB tyZ23 (nm := 1008) (by decide) (L rfl)) rfl (cg (OpJ.storeB tyS23 (SetAt.here _ _) (by rfl) (by rfl) (by simp) rfl (q 8) (q 14)) rfl cn)))) ?_
      refine gh [(1, _), (6, _), (8, _), (9, _), (10, _), (11, _)] [(1008, some _), (3006, some _)] hB rfl rfl (by rfl) ?_
      refine sr (c (ov (.ptr 1008 1 [1]) (fp hN Try.underlying23 1 tyS3 _ (q 8))) rfl (c (lb hN 23 _ _ tyS3 (ad _) (q 15)) rfl (c (mv hN (q 1)) rfl (c (OpJ.eqlI (L rfl) (q 16) (q 17)) rfl cn)))) ?_
      refine gh [(1, _), (6, _), (8, _), (9, _), (10, _), (11, _), (18, _)] [(1008, some _), (3006, some _)] hB rfl rfl (by rfl) ?_
      refine AWp.cut h (fun m23 : (List api_Cell) => ([(1, (i6 a1)), (6, (.sref 3006 4 0 m23.length)), (9, (qe_api_Cell_4 a0)), (10, (i6 (a0.length : Int))), (11, (i6 s1.1))] : EL)) (fun m23 : (List api_Cell) => ([(3006, some (we_api_Cell_23_4 m23))] : OL)) (fun m23 h E' O' hmat => ?_) (fun j24 hjj24 h => ?_)
      · refine blkQ_n ?_
        refine seqQ_n ?_
        refine AWp.ghost hmat ?_
        refine rg (c (add6 (L rfl) (q 11) (Opd.int .i64 (1))) rfl (c (mv hN (q 23)) rfl cn)) ?_
        obtain rfl := Option.some.inj h
        exact ⟨rfl, (Mat.trans (mp [] [(1, (i6 a1)), (6, (.sref 3006 4 0 m23.length)), (9, (qe_api_Cell_4 a0)), (10, (i6 (a0.length : Int))), (11, (i6 (w64 (s1.1 + (1 : Int)))))] [(3006, some (we_api_Cell_23_4 m23))] hB) (mp [] _ _ hB))⟩
      · refine AWp.cond rfl (fun hg25 => ?_) (fun hg25 => ?_)
        · replace h := ite_t hg25 h
          obtain ⟨hc26, h⟩ := chk_some h
          refine rg (c (mv hN (q 6)) rfl (c (lb hN 23 _ _ tyS23 (At.here _) (q 8)) rfl (c (OpJ.buildSlice Try.underlying27 tyS23 tyZD23 (by rfl) (by decide) (by decide) (Opds.cons (q 20) Opds.nil) (by kernel_rfl) (es := ([(e_api_Cell x20)] : List D)) (by rfl) (by rfl) (by kernel_rfl) (by simp) (L rfl)) rfl (cg (OpJ.append hB Try.underlying27 tyE23 (nm := 1022) (by decide) (es := s1.2.map e_api_Cell) (ys := ([x20] : List api_Cell).map e_api_Cell) (es' := (s1.2 ++ ([x20] : List api_Cell)).map e_api_Cell) (len := (s1.2 ++ ([x20] : List api_Cell)).length) (by simp) (by simp) (map_sz (f := e_api_Cell) (fun _ => rfl)) (by rw [List.length_map]; exact lim_mulN hc26 (by decide)) (by rw [List.length_map]; exact lim_leN hc26) (L rfl) (by simp) (q 19) (q 21)) rfl (c (OpJ.assign (L rfl) (q 22)) rfl cn))))) ?_
          exact hjj24 _ h _ _ (Mat.trans (mp [] [(1, (i6 a1)), (6, (.sref 1022 4 0 ((s1.2 ++ ([x20] : List api_Cell)).length))), (9, (qe_api_Cell_4 a0)), (10, (i6 (a0.length : Int))), (11, (i6 s1.1))] [(1022, some (we_api_Cell_23_4 (s1.2 ++ ([x20] : List api_Cell))))] hB) (mp [(3006, 1022)] _ _ hB))
        · replace h := ite_f hg25 h
          refine AWp.skip ?_
          exact hjj24 _ h _ _ (mp [] _ _ hB)
    · replace h := ite_f hg19 h
      refine AWp.exit ?_
      refine seqQ_e ?_
      obtain rfl := Option.some.inj h
      exact ⟨(fun hc => by cases hc), rfl, (mp [] _ _ hB)⟩
  · obtain ⟨rfl, hmat⟩ := hR
    refine blkQ_hit ?_
    refine seqQ_n ?_
    refine AWp.ghost hmat ?_
    refine AWp.seq ?_
    refine AWp.ghost (Mat.freezeP (n := 3006) (e := 23) (sz := 4) (es := p18.map e_api_Cell) (Ts := [(6, (qe_api_Cell_4 p18))]) (Bs := []) (by rfl) (TwT.cons (x := (.sref 3006 4 0 p18.length)) (by rfl) (FrzL.all (by first | rfl | (simp; done) | (simp; omega))) TwT.nil) TwB.nil) ?_
    obtain ⟨r29, hr29, h⟩ := bindS h
    refine rg (c (mv hN (q 6)) rfl (cg (OpJ.callFn hB fnOk22 (exchangepointref38_Total_ac p18 r29 hr29) [] (by kernel_rfl) (L rfl) (by kernel_rfl) (OpdL.cons (q 24) OpdL.nil)) rfl (c (OpJ.extract (by rfl) rfl (L rfl) (q 25)) rfl (c (OpJ.extract (by rfl) rfl (L rfl) (q 25)) rfl (c (OpJ.assign (L rfl) (q 26)) rfl (c (OpJ.assign (L rfl) (q 27)) rfl cn)))))) ?_
    refine seqQ_n ?_
    refine gh [(4, _), (5, _)] [] hB rfl rfl (by rfl) ?_
    refine AWp.ret ?_
    obtain rfl := Option.some.inj h
    exact ⟨.inl rfl, _, _, (kp [(4, _), (5, _)] [] hB rfl rfl (by rfl)), [(i6 r29.1), (i6 r29.2)], (Res.tmp (by rfl) (by rfl) (Res.tmp (by rfl) (by rfl) Res.nil)), rfl, by rfl, by rfl, by rfl⟩

noncomputable def exchangepointref37_Between_L0 (a0 : (List api_Sample)) (a1 : Int) (a2 : Int) (s1 : Int × (List api_Sample)) : Option ((((List api_Sample))) ⊕ (Int × (List api_Sample))) :=
  (if (decide (s1.1 < (a0.length : Int))) = true then
  (idx a0 s1.1).bind fun x20 =>
  jn (fun m23 : (List api_Sample) =>
  some (.inr ((w64 (s1.1 + (1 : Int))), m23))) (fun j24 =>
  (if ((decide (a1 ≤ x20.fTick)) && (decide (x20.fTick < a2))) = true then
  chk (decide ((s1.2 ++ ([x20] : List api_Sample)).length ≤ LIM)) <|
  j24 (s1.2 ++ ([x20] : List api_Sample))
  else
  j24 s1.2))
  else
  some (.inl s1.2))
noncomputable def exchangepointref37_Between (a0 : (List api_Sample)) (a1 : Int) (a2 : Int) : Option ((List api_Sample)) :=
  (loop (exchangepointref37_Between_L0 a0 a1 a2) ((0 : Int), ([] : List api_Sample))).bind fun p18 =>
  some p18
set_option maxHeartbeats 4000000 in
set_option maxRecDepth 100000 in
theorem exchangepointref37_Between_ac (a0 : (List api_Sample)) (a1 : Int) (a2 : Int) (r : (List api_Sample)) (h : exchangepointref37_Between a0 a1 a2 = some r) : AC Try.prog 27 [(.d (.list 6 (a0.map e_api_Sample))), (.d (.int .i64 a1)), (.d (.int .i64 a2))] [] (.d (.list 6 (r.map e_api_Sample))) [] := by
  refine AC.of_code2 Try.func27 rfl rfl (Nat.le_of_ble_eq_true (by rfl)) fun B hB hN => ?_
  have L {d : Nat} (h : Nat.blt d Try.f27.ntmps = true) : d < B.N := ltN hN h
  delta exchangepointref37_Between at h
  refine sr (c (OpJ.assign (L rfl) Opd.nils) rfl cn) ?_
  refine gh [(0, _), (1, _), (2, _)] [] hB rfl rfl (by rfl) ?_
  refine sr (c (OpJ.assign (L rfl) Opd.nils) rfl cn) ?_
  refine gh [(0, _), (1, _), (2, _), (7, _)] [] hB rfl rfl (by rfl) ?_
  refine AWp.seq ?_
  refine sr (c (mv hN (q 0)) rfl (c (OpJ.val (v' := (i6 (a0.length : Int))) (by simp) (OpJ.lenD Try.underlying33 (L rfl) (q 10))) rfl (c (mv hN (Opd.int .i64 (0))) rfl cn))) ?_
  refine gh [(1, _), (2, _), (7, _), (10, _), (11, _), (12, _)] [] hB rfl rfl (by rfl) ?_
  refine AWp.block ?_
  obtain ⟨p18, hx28, h⟩ := bindS h
  refine lg (exchangepointref37_Between_L0 a0 a1 a2) (fun s1 : Int × (List api_Sample) => ([(1, (i6 a1)), (2, (i6 a2)), (7, (.sref 3007 6 0 s1.2.length)), (10, (qe_api_Sample_6 a0)), (11, (i6 (a0.length : Int))), (12, (i6 s1.1))] : EL)) (fun s1 : Int × (List api_Sample) => ([(3007, some (we_api_Sample_54_6 s1.2))] : OL)) (fun (p18 : ((List api_Sample))) e E' O' => e = .exit 0 ∧ Mat B E' O' ([(7, (.sref 3007 6 0 p18.length))] : EL) ([(3007, some (we_api_Sample_54_6 p18))] : OL)) hx28 (Mat.trans (Mat.beginP (n := 3007) (e := 54) (sz := 6) (Ts := [(7, (.sref 3007 6 0 0))]) (Bs := []) hB (by decide) (by rfl) (by decide) (TwT.cons (x := .nils) (by rfl) (Tw.leaf ⟨rfl, rfl⟩) TwT.nil) TwB.nil) (mp [] _ _ hB)) (fun s1 y h => ?_) (fun e E' O' hR => ?_)
  · unfold exchangepointref37_Between_L0 at h
    refine sr (c (OpJ.lss (L rfl) (q 12) (q 11)) rfl cn) ?_
    refine gh [(1, _), (2, _), (7, _), (10, _), (11, _), (12, _), (13, _)] [(3007, some _)] hB rfl rfl (by rfl) ?_
    refine AWp.seq ?_
    refine AWp.cond rfl (fun hg19 => ?_) (fun hg19 => ?_)
    · replace h := ite_t hg19 h
      refine AWp.skip ?_
      refine seqQ_n ?_
      refine AWp.seq ?_
      refine AWp.block ?_
      obtain ⟨x20, hx20, h⟩ := bindS h
      refine sr (c (OpJ.indexD Try.underlying33 tyS54 (idx_some hx20).1 (get_map e_api_Sample (idx_some hx20).2) (L rfl) (q 10) (q 12)) rfl (c (OpJ.loadD tyS54 (by rfl) (by rfl) (L rfl) (q 14)) rfl (cg (OpJ.alloc hB tyZ54 (nm := 1009) (by decide) (L rfl)) rfl (cg (OpJ.storeB tyS54 (SetAt.here _ _) (by rfl) (by rfl) (by simp) rfl (q 9) (q 15)) rfl cn)))) ?_
      refine gh [(1, _), (2, _), (7, _), (9, _), (10, _), (11, _), (12, _)] [(1009, some _), (3007, some _)] hB rfl rfl (by rfl) ?_
      refine sr (c (ov (.ptr 1009 0 [0]) (fp hN Try.underlying54 0 tyS3 _ (q 9))) rfl (c (lb hN 54 _ _ tyS3 (ad _) (q 16)) rfl (c (mv hN (q 1)) rfl (c (OpJ.geq (L rfl) (q 17) (q 18)) rfl (c (mv hN (q 19)) rfl (c (oq hN 20 (ov (.ptr 1009 0 [0]) (fp hN Try.underlying54 0 tyS3 _ (q 9))) (OptL.keep (by rfl) OptL.nil) (GuardV.plain _)) rfl (c (oq hN 20 (lb hN 54 _ _ tyS3 (ad _) (q 21)) (OptL.opt OptL.nil) (GuardV.plain _)) rfl (c (oq hN 20 (mv hN (q 2)) (OptL.keep (by rfl) OptL.nil) (GuardV.plain _)) rfl (c (oq hN 20 (OpJ.lss (L rfl) (q 22) (q 23)) (OptL.opt (OptL.opt OptL.nil)) (GuardV.plain _)) rfl (c (OpJ.pickAnd rfl (L rfl) (q 20) (q 24)) rfl cn)))))))))) ?_
      refine gh [(1, _), (2, _), (7, _), (9, _), (10, _), (11, _), (12, _), (25, _)] [(1009, some _), (3007, some _)] hB rfl rfl (by rfl) ?_
      refine AWp.cut h (fun m23 : (List api_Sample) => ([(1, (i6 a1)), (2, (i6 a2)), (7, (.sref 3007 6 0 m23.length)), (10, (qe_api_Sample_6 a0)), (11, (i6 (a0.length : Int))), (12, (i6 s1.1))] : EL)) (fun m23 : (List api_Sample) => ([(3007, some (we_api_Sample_54_6 m23))] : OL)) (fun m23 h E' O' hmat => ?_) (fun j24 hjj24 h => ?_)
      · refine blkQ_n ?_
        refine seqQ_n ?_
        refine AWp.ghost hmat ?_
        refine rg (c (add6 (L rfl) (q 12) (Opd.int .i64 (1))) rfl (c (mv hN (q 30)) rfl cn)) ?_
        obtain rfl := Option.some.inj h
        exact ⟨rfl, (Mat.trans (mp [] [(1, (i6 a1)), (2, (i6 a2)), (7, (.sref 3007 6 0 m23.length)), (10, (qe_api_Sample_6 a0)), (11, (i6 (a0.length : Int))), (12, (i6 (w64 (s1.1 + (1 : Int)))))] [(3007, some (we_api_Sample_54_6 m23))] hB) (mp [] _ _ hB))⟩
      · refine AWp.cond rfl (fun hg25 => ?_) (fun hg25 => ?_)
        · replace h := ite_t hg25 h
          obtain ⟨hc26, h⟩ := chk_some h
          refine rg (c (mv hN (q 7)) rfl (c (lb hN 54 _ _ tyS54 (At.here _) (q 9)) rfl (c (OpJ.buildSlice Try.underlying33 tyS54 tyZD54 (by rfl) (by decide) (by decide) (Opds.cons (q 27) Opds.nil) (by kernel_rfl) (es := ([(e_api_Sample x20)] : List D)) (by rfl) (by rfl) (by kernel_rfl) (by simp) (L rfl)) rfl (cg (OpJ.append hB Try.underlying33 tyE54 (nm := 1029) (by decide) (es := s1.2.map e_api_Sample) (ys := ([x20] : List api_Sample).map e_api_Sample) (es' := (s1.2 ++ ([x20] : List api_Sample)).map e_api_Sample) (len := (s1.2 ++ ([x20] : List api_Sample)).length) (by simp) (by simp) (map_sz (f := e_api_Sample) (fun _ => rfl)) (by rw [List.length_map]; exact lim_mulN hc26 (by decide)) (by rw [List.length_map]; exact lim_leN hc26) (L rfl) (by simp) (q 26) (q 28)) rfl (c (OpJ.assign (L rfl) (q 29)) rfl cn))))) ?_
          exact hjj24 _ h _ _ (Mat.trans (mp [] [(1, (i6 a1)), (2, (i6 a2)), (7, (.sref 1029 6 0 ((s1.2 ++ ([x20] : List api_Sample)).length))), (10, (qe_api_Sample_6 a0)), (11, (i6 (a0.length : Int))), (12, (i6 s1.1))] [(1029, some (we_api_Sample_54_6 (s1.2 ++ ([x20] : List api_Sample))))] hB) (mp [(3007, 1029)] _ _ hB))
        · replace h := ite_f hg25 h
          refine AWp.skip ?_
          exact hjj24 _ h _ _ (mp [] _ _ hB)
    · replace h := ite_f hg19 h
      refine AWp.exit ?_
      refine seqQ_e ?_
      obtain rfl := Option.some.inj h
      exact ⟨(fun hc => by cases hc), rfl, (mp [] _ _ hB)⟩
  · obtain ⟨rfl, hmat⟩ := hR
    refine blkQ_hit ?_
    refine seqQ_n ?_
    refine AWp.ghost hmat ?_
    refine sr (c (mv hN (q 7)) rfl (c (OpJ.assign (L rfl) (q 31)) rfl cn)) ?_
    refine gh [(6, _)] [(3007, some _)] hB rfl rfl (by rfl) ?_
    refine AWp.ret ?_
    obtain rfl := Option.some.inj h
    exact ⟨.inl rfl, _, _, (Mat.trans (Mat.freezeP (n := 3007) (e := 54) (sz := 6) (es := p18.map e_api_Sample) (Ts := [(6, (qe_api_Sample_6 p18))]) (Bs := []) (by rfl) (TwT.cons (x := (.sref 3007 6 0 p18.length)) (by rfl) (FrzL.all (by first | rfl | (simp; done) | (simp; omega))) TwT.nil) TwB.nil) (mp [] [(6, (qe_api_Sample_6 p18))] [] hB)), [(qe_api_Sample_6 p18)], (Res.tmp (by rfl) (by rfl) Res.nil), rfl, by rfl, by rfl, by rfl⟩

noncomputable def exchangepointlaw38_MatrixSums_L0 (r2 : (List api_Sample) × exchangepointmill_Deck) (s19 : Int × Int) : Option (((Int)) ⊕ (Int × Int)) :=
  (if (decide (s19.2 < (r2.1.length : Int))) = true then
  (idx r2.1 s19.2).bind fun x26 =>
  some (.inr ((w64 (s19.1 + x26.fBytes)), (w64 (s19.2 + (1 : Int)))))
  else
  some (.inl s19.1))
noncomputable def exchangepointlaw38_MatrixSums_L1 (r5 : (List api_Cell) × Int) (s29 : Int × Int × Int × Int × Int) : Option (((Int × Int × Int × Int)) ⊕ (Int × Int × Int × Int × Int)) :=
  (if (decide (s29.2.2.2.2 ≤ (103 : Int))) = true then
  (matrix_From r5.1 s29.2.2.2.2).bind fun r38 =>
  (matrix_To r5.1 s29.2.2.2.2).bind fun r39 =>
  some (.inr ((w64 (s29.1 + r38.1)), (w64 (s29.2.1 + r38.2)), (w64 (s29.2.2.1 + r39.1)), (w64 (s29.2.2.2.1 + r39.2)), (w64 (s29.2.2.2.2 + (1 : Int)))))
  else
  some (.inl (s29.1, s29.2.1, s29.2.2.1, s29.2.2.2.1)))
noncomputable def exchangepointlaw38_MatrixSums (a0 : (List Int)) (a1 : Int) (a2 : Int) : Option (Bool) :=
  (exchangepointmill_New a0).bind fun r1 =>
  (exchangepointmill_Deck_Samples r1).bind fun r2 =>
  (exchangepointmill_Mod a2 (180 : Int)).bind fun r3 =>
  (exchangepointlaw38_rules a1).bind fun r4 =>
  (matrix_Cells r2.1 r4).bind fun r5 =>
  (exchangepointref37_Between r2.1 (0 : Int) r3).bind fun r6 =>
  (exchangepointlaw38_rules a1).bind fun r7 =>
  (matrix_Cells r6 r7).bind fun r8 =>
  (exchangepointref37_Between r2.1 r3 (1073741825 : Int)).bind fun r9 =>
  (exchangepointlaw38_rules a1).bind fun r10 =>
  (matrix_Cells r9 r10).bind fun r11 =>
  (matrix_Add r8.1 r11.1).bind fun r12 =>
  jn (fun m15 : Bool =>
  (if m15 = true then
  some false
  else
  (matrix_Total r5.1).bind fun r18 =>
  (loop (exchangepointlaw38_MatrixSums_L0 r2) ((0 : Int), (0 : Int))).bind fun p24 =>
  (loop (exchangepointlaw38_MatrixSums_L1 r5) ((0 : Int), (0 : Int), (0 : Int), (0 : Int), (101 : Int))).bind fun p36 =>
  jn (fun m44 : Bool =>
  some m44) (fun j45 =>
  (if ((((((r18.1 == (r2.1.length : Int)) && (r18.2 == p24)) && (p36.1 == r18.1)) && (p36.2.1 == r18.2)) && (p36.2.2.1 == r18.1)) && (p36.2.2.2 == r18.2)) = true then
  (exchangepointlaw38_awake).bind fun r47 =>
  j45 r47
  else
  j45 false)))) (fun j16 =>
  (if ((((r5.2 != (0 : Int)) || (r8.2 != (0 : Int))) || (r11.2 != (0 : Int))) || (r12.2 != (0 : Int))) = true then
  j16 true
  else
  (exchangepointref38_Same r5.1 r12.1).bind fun r49 =>
  j16 (!r49)))
set_option maxHeartbeats 4000000 in
set_option maxRecDepth 100000 in
theorem exchangepointlaw38_MatrixSums_ac (a0 : (List Int)) (a1 : Int) (a2 : Int) (r : Bool) (h : exchangepointlaw38_MatrixSums a0 a1 a2 = some r) : AC Try.prog 6 [(.d (.list 1 (a0.map (eI .i64)))), (.d (.int .i64 a1)), (.d (.int .i64 a2))] [] (.d (.bool r)) [] := by
  refine AC.of_code2 Try.func6 rfl rfl (Nat.le_of_ble_eq_true (by rfl)) fun B hB hN => ?_
  have L {d : Nat} (h : Nat.blt d Try.f6.ntmps = true) : d < B.N := ltN hN h
  delta exchangepointlaw38_MatrixSums at h
  refine sr (c (OpJ.assign (L rfl) (Opd.bool false)) rfl cn) ?_
  refine gh [(0, _), (1, _), (2, _)] [] hB rfl rfl (by rfl) ?_
  refine AWp.seq ?_
  obtain ⟨r1, hr1, h⟩ := bindS h
  obtain ⟨r2, hr2, h⟩ := bindS h
  refine AWp.region (oc (mv hN (ot 0 (qI_1 a0)))
  (oc (OpJ.callFn hB fnOk11 (exchangepointmill_New_ac a0 r1 hr1) [(1005, 100000)] (by kernel_rfl) (L rfl) (by kernel_rfl) (OpdL.cons (ot 29 (qI_1 a0)) OpdL.nil))
  (oc (OpJ.callFn hB fnOk12 (exchangepointmill_Deck_Samples_ac r1 r2 hr2) [(0, 100000)] (by kernel_rfl) (L rfl) (by kernel_rfl) (OpdL.cons (ot 30 (.ptr 100000 0 [])) OpdL.nil))
  (oc (OpJ.assign (L rfl) (ot 31 (qe_api_Sample_6 r2.1)))
  (OpJs.nil))))) (by rfl) (by rfl) ?_
  refine seqQ_n ?_
  refine AWp.ghost (mp [] [(1, (i6 a1)), (2, (i6 a2)), (7, (qe_api_Sample_6 r2.1))] [] hB) ?_
  obtain ⟨r3, hr3, h⟩ := bindS h
  refine sr (c (mv hN (q 2)) rfl (cg (OpJ.callFn hB fnOk7 (exchangepointmill_Mod_ac a2 (180 : Int) r3 hr3) [] (by kernel_rfl) (L rfl) (by kernel_rfl) (OpdL.cons (q 32) (OpdL.cons (Opd.int .i64 (180)) OpdL.nil))) rfl (c (OpJ.assign (L rfl) (q 33)) rfl cn))) ?_
  refine gh [(1, _), (7, _), (8, _)] [] hB rfl rfl (by rfl) ?_
  obtain ⟨r4, hr4, h⟩ := bindS h
  obtain ⟨r5, hr5, h⟩ := bindS h
  refine sr (c (mv hN (q 7)) rfl (c (mv hN (q 1)) rfl (cg (OpJ.callFn hB fnOk14 (exchangepointlaw38_rules_ac a1 r4 hr4) [] (by kernel_rfl) (L rfl) (by kernel_rfl) (OpdL.cons (q 36) OpdL.nil)) rfl (cg (OpJ.callFn hB fnOk15 (matrix_Cells_ac r2.1 r4 r5 hr5) [] (by kernel_rfl) (L rfl) (by kernel_rfl) (OpdL.cons (q 35) (OpdL.cons (q 37) OpdL.nil))) rfl (c (mv hN (q 38)) rfl (c (OpJ.extract (by rfl) rfl (L rfl) (q 34)) rfl (c (OpJ.extract (by rfl) rfl (L rfl) (q 34)) rfl (c (OpJ.assign (L rfl) (q 39)) rfl (c (OpJ.assign (L rfl) (q 40)) rfl cn))))))))) ?_
  refine gh [(1, _), (7, _), (8, _), (9, _), (10, _)] [] hB rfl rfl (by rfl) ?_
  obtain ⟨r6, hr6, h⟩ := bindS h
  obtain ⟨r7, hr7, h⟩ := bindS h
  obtain ⟨r8, hr8, h⟩ := bindS h
  refine sr (c (mv hN (q 7)) rfl (c (mv hN (q 8)) rfl (cg (OpJ.callFn hB fnOk27 (exchangepointref37_Between_ac r2.1 (0 : Int) r3 r6 hr6) [] (by kernel_rfl) (L rfl) (by kernel_rfl) (OpdL.cons (q 42) (OpdL.cons (Opd.int .i64 (0)) (OpdL.cons (q 43) OpdL.nil)))) rfl (c (mv hN (q 1)) rfl (cg (OpJ.callFn hB fnOk14 (exchangepointlaw38_rules_ac a1 r7 hr7) [] (by kernel_rfl) (L rfl) (by kernel_rfl) (OpdL.cons (q 45) OpdL.nil)) rfl (cg (OpJ.callFn hB fnOk15 (matrix_Cells_ac r6 r7 r8 hr8) [] (by kernel_rfl) (L rfl) (by kernel_rfl) (OpdL.cons (q 44) (OpdL.cons (q 46) OpdL.nil))) rfl (c (mv hN (q 47)) rfl (c (OpJ.extract (by rfl) rfl (L rfl) (q 41)) rfl (c (OpJ.extract (by rfl) rfl (L rfl) (q 41)) rfl (c (OpJ.assign (L rfl) (q 48)) rfl (c (OpJ.assign (L rfl) (q 49)) rfl cn))))))))))) ?_
  refine gh [(1, _), (7, _), (8, _), (9, _), (10, _), (11, _), (12, _)] [] hB rfl rfl (by rfl) ?_
  obtain ⟨r9, hr9, h⟩ := bindS h
  obtain ⟨r10, hr10, h⟩ := bindS h
  obtain ⟨r11, hr11, h⟩ := bindS h
  refine sr (c (mv hN (q 7)) rfl (c (mv hN (q 8)) rfl (cg (OpJ.callFn hB fnOk27 (exchangepointref37_Between_ac r2.1 r3 (1073741825 : Int) r9 hr9) [] (by kernel_rfl) (L rfl) (by kernel_rfl) (OpdL.cons (q 51) (OpdL.cons (q 52) (OpdL.cons (Opd.int .i64 (1073741825)) OpdL.nil)))) rfl (c (mv hN (q 1)) rfl (cg (OpJ.callFn hB fnOk14 (exchangepointlaw38_rules_ac a1 r10 hr10) [] (by kernel_rfl) (L rfl) (by kernel_rfl) (OpdL.cons (q 54) OpdL.nil)) rfl (cg (OpJ.callFn hB fnOk15 (matrix_Cells_ac r9 r10 r11 hr11) [] (by kernel_rfl) (L rfl) (by kernel_rfl) (OpdL.cons (q 53) (OpdL.cons (q 55) OpdL.nil))) rfl (c (mv hN (q 56)) rfl (c (OpJ.extract (by rfl) rfl (L rfl) (q 50)) rfl (c (OpJ.extract (by rfl) rfl (L rfl) (q 50)) rfl (c (OpJ.assign (L rfl) (q 57)) rfl (c (OpJ.assign (L rfl) (q 58)) rfl cn))))))))))) ?_
  refine gh [(7, _), (9, _), (10, _), (11, _), (12, _), (13, _), (14, _)] [] hB rfl rfl (by rfl) ?_
  obtain ⟨r12, hr12, h⟩ := bindS h
  refine sr (c (mv hN (q 11)) rfl (c (mv hN (q 13)) rfl (cg (OpJ.callFn hB fnOk19 (matrix_Add_ac r8.1 r11.1 r12 hr12) [] (by kernel_rfl) (L rfl) (by kernel_rfl) (OpdL.cons (q 60) (OpdL.cons (q 61) OpdL.nil))) rfl (c (mv hN (q 62)) rfl (c (OpJ.extract (by rfl) rfl (L rfl) (q 59)) rfl (c (OpJ.extract (by rfl) rfl (L rfl) (q 59)) rfl (c (OpJ.assign (L rfl) (q 63)) rfl (c (OpJ.assign (L rfl) (q 64)) rfl cn)))))))) ?_
  refine gh [(7, _), (9, _), (10, _), (12, _), (14, _), (15, _), (16, _)] [] hB rfl rfl (by rfl) ?_
  refine AWp.seq ?_
  refine AWp.seq ?_
  refine AWp.cut h (fun m15 : Bool => ([(7, (qe_api_Sample_6 r2.1)), (9, (qe_api_Cell_4 r5.1)), (84, (bo m15))] : EL)) (fun m15 : Bool => ([] : OL)) (fun m15 h E' O' hmat => ?_) (fun j16 hjj16 h => ?_)
  · refine seqQ_n ?_
    refine AWp.ghost hmat ?_
    refine AWp.cond rfl (fun hg17 => ?_) (fun hg17 => ?_)
    · replace h := ite_t hg17 h
      refine sr (c (OpJ.assign (L rfl) (Opd.bool false)) rfl cn) ?_
      refine gh [(6, _)] [] hB rfl rfl (by rfl) ?_
      refine AWp.ret ?_
      refine seqQ_r ?_
      obtain rfl := Option.some.inj h
      exact ⟨.inl rfl, _, _, (kp [(6, _)] [] hB rfl rfl (by rfl)), [(bo false)], (Res.tmp (by rfl) (by rfl) Res.nil), rfl, by rfl, by rfl, by rfl⟩
    · replace h := ite_f hg17 h
      refine AWp.skip ?_
      refine seqQ_n ?_
      obtain ⟨r18, hr18, h⟩ := bindS h
      refine sr (c (mv hN (q 9)) rfl (cg (OpJ.callFn hB fnOk21 (matrix_Total_ac r5.1 r18 hr18) [] (by kernel_rfl) (L rfl) (by kernel_rfl) (OpdL.cons (q 86) OpdL.nil)) rfl (c (mv hN (q 87)) rfl (c (OpJ.extract (by rfl) rfl (L rfl) (q 85)) rfl (c (OpJ.extract (by rfl) rfl (L rfl) (q 85)) rfl (c (OpJ.assign (L rfl) (q 88)) rfl (c (OpJ.assign (L rfl) (q 89)) rfl cn))))))) ?_
      refine gh [(7, _), (9, _), (17, _), (18, _)] [] hB rfl rfl (by rfl) ?_
      refine sr (c (OpJ.assign (L rfl) (Opd.int .i64 (0))) rfl cn) ?_
      refine gh [(7, _), (9, _), (17, _), (18, _), (19, _)] [] hB rfl rfl (by rfl) ?_
      refine AWp.seq ?_
      refine sr (c (mv hN (q 7)) rfl (c (OpJ.val (v' := (i6 (r2.1.length : Int))) (by simp) (OpJ.lenD Try.underlying33 (L rfl) (q 90))) rfl (c (mv hN (Opd.int .i64 (0))) rfl cn))) ?_
      refine gh [(7, _), (9, _), (17, _), (18, _), (19, _), (90, _), (91, _), (92, _)] [] hB rfl rfl (by rfl) ?_
      refine AWp.block ?_
      obtain ⟨p24, hx28, h⟩ := bindS h
      refine lg (exchangepointlaw38_MatrixSums_L0 r2) (fun s19 : Int × Int => ([(7, (qe_api_Sample_6 r2.1)), (9, (qe_api_Cell_4 r5.1)), (17, (i6 r18.1)), (18, (i6 r18.2)), (19, (i6 s19.1)), (90, (qe_api_Sample_6 r2.1)), (91, (i6 (r2.1.length : Int))), (92, (i6 s19.2))] : EL)) (fun s19 : Int × Int => ([] : OL)) (fun (p24 : (Int)) e E' O' => e = .exit 0 ∧ Mat B E' O' ([(7, (qe_api_Sample_6 r2.1)), (9, (qe_api_Cell_4 r5.1)), (17, (i6 r18.1)), (18, (i6 r18.2)), (19, (i6 p24))] : EL) ([] : OL)) hx28 (mp [] _ _ hB) (fun s19 y h => ?_) (fun e E' O' hR => ?_)
      · unfold exchangepointlaw38_MatrixSums_L0 at h
        refine sr (c (OpJ.lss (L rfl) (q 92) (q 91)) rfl cn) ?_
        refine gh [(7, _), (9, _), (17, _), (18, _), (19, _), (90, _), (91, _), (92, _), (93, _)] [] hB rfl rfl (by rfl) ?_
        refine AWp.seq ?_
        refine AWp.cond rfl (fun hg25 => ?_) (fun hg25 => ?_)
        · replace h := ite_t hg25 h
          refine AWp.skip ?_
          refine seqQ_n ?_
          refine AWp.seq ?_
          refine AWp.block ?_
          obtain ⟨x26, hx26, h⟩ := bindS h
          refine sr (c (OpJ.indexD Try.underlying33 tyS54 (idx_some hx26).1 (get_map e_api_Sample (idx_some hx26).2) (L rfl) (q 90) (q 92)) rfl (c (OpJ.loadD tyS54 (by rfl) (by rfl) (L rfl) (q 94)) rfl (cg (OpJ.alloc hB tyZ54 (nm := 1021) (by decide) (L rfl)) rfl (cg (OpJ.storeB tyS54 (SetAt.here _ _) (by rfl) (by rfl) (by simp) rfl (q 21) (q 95)) rfl cn)))) ?_
          refine gh [(7, _), (9, _), (17, _), (18, _), (19, _), (21, _), (90, _), (91, _), (92, _)] [(1021, some _)] hB rfl rfl (by rfl) ?_
          refine rg (c (mv hN (q 19)) rfl (c (ov (.ptr 1021 5 [5]) (fp hN Try.underlying54 5 tyS3 _ (q 21))) rfl (c (lb hN 54 _ _ tyS3 (ad _) (q 97)) rfl (c (add6 (L rfl) (q 96) (q 98)) rfl (c (OpJ.assign (L rfl) (q 99)) rfl cn))))) ?_
          refine blkQ_n ?_
          refine seqQ_n ?_
          refine gh [(7, _), (9, _), (17, _), (18, _), (19, _), (90, _), (91, _), (92, _)] [] hB rfl rfl (by rfl) ?_
          refine rg (c (add6 (L rfl) (q 92) (Opd.int .i64 (1))) rfl (c (mv hN (q 100)) rfl cn)) ?_
          obtain rfl := Option.some.inj h
          exact ⟨rfl, (Mat.trans (mp [] [(7, (qe_api_Sample_6 r2.1)), (9, (qe_api_Cell_4 r5.1)), (17, (i6 r18.1)), (18, (i6 r18.2)), (19, (i6 (w64 (s19.1 + x26.fBytes)))), (90, (qe_api_Sample_6 r2.1)), (91, (i6 (r2.1.length : Int))), (92, (i6 (w64 (s19.2 + (1 : Int)))))] [] hB) (mp [] _ _ hB))⟩
        · replace h := ite_f hg25 h
          refine AWp.exit ?_
          refine seqQ_e ?_
          obtain rfl := Option.some.inj h
          exact ⟨(fun hc => by cases hc), rfl, (mp [] _ _ hB)⟩
      · obtain ⟨rfl, hmat⟩ := hR
        refine blkQ_hit ?_
        refine seqQ_n ?_
        refine AWp.ghost hmat ?_
        refine sr (c (OpJ.assign (L rfl) (Opd.int .i64 (0))) rfl (c (OpJ.assign (L rfl) (Opd.int .i64 (0))) rfl (c (OpJ.assign (L rfl) (Opd.int .i64 (0))) rfl (c (OpJ.assign (L rfl) (Opd.int .i64 (0))) rfl cn)))) ?_
        refine gh [(7, _), (9, _), (17, _), (18, _), (19, _), (22, _), (23, _), (24, _), (25, _)] [] hB rfl rfl (by rfl) ?_
        refine AWp.seq ?_
        refine sr (c (OpJ.assign (L rfl) (Opd.int .i64 (101))) rfl cn) ?_
        refine gh [(7, _), (9, _), (17, _), (18, _), (19, _), (22, _), (23, _), (24, _), (25, _), (26, _)] [] hB rfl rfl (by rfl) ?_
        refine AWp.block ?_
        obtain ⟨p36, hx41, h⟩ := bindS h
        refine lg (exchangepointlaw38_MatrixSums_L1 r5) (fun s29 : Int × Int × Int × Int × Int => ([(7, (qe_api_Sample_6 r2.1)), (9, (qe_api_Cell_4 r5.1)), (17, (i6 r18.1)), (18, (i6 r18.2)), (19, (i6 p24)), (22, (i6 s29.1)), (23, (i6 s29.2.1)), (24, (i6 s29.2.2.1)), (25, (i6 s29.2.2.2.1)), (26, (i6 s29.2.2.2.2))] : EL)) (fun s29 : Int × Int × Int × Int × Int => ([] : OL)) (fun (p36 : (Int × Int × Int × Int)) e E' O' => e = .exit 2 ∧ Mat B E' O' ([(7, (qe_api_Sample_6 r2.1)), (17, (i6 r18.1)), (18, (i6 r18.2)), (19, (i6 p24)), (22, (i6 p36.1)), (23, (i6 p36.2.1)), (24, (i6 p36.2.2.1)), (25, (i6 p36.2.2.2))] : EL) ([] : OL)) hx41 (mp [] _ _ hB) (fun s29 y h => ?_) (fun e E' O' hR => ?_)
        · unfold exchangepointlaw38_MatrixSums_L1 at h
          refine AWp.seq ?_
          refine sr (c (mv hN (q 26)) rfl (c (OpJ.leq (L rfl) (q 101) (Opd.int .i64 (103))) rfl cn)) ?_
          refine gh [(7, _), (9, _), (17, _), (18, _), (19, _), (22, _), (23, _), (24, _), (25, _), (26, _), (102, _)] [] hB rfl rfl (by rfl) ?_
          refine AWp.cond rfl (fun hg37 => ?_) (fun hg37 => ?_)
          · replace h := ite_t hg37 h
            refine AWp.skip ?_
            refine seqQ_n ?_
            refine AWp.seq ?_
            refine AWp.block ?_
            obtain ⟨r38, hr38, h⟩ := bindS h
            refine sr (c (mv hN (q 9)) rfl (c (mv hN (q 26)) rfl (cg (OpJ.callFn hB fnOk23 (matrix_From_ac r5.1 s29.2.2.2.2 r38 hr38) [] (by kernel_rfl) (L rfl) (by kernel_rfl) (OpdL.cons (q 106) (OpdL.cons (q 107) OpdL.nil))) rfl (c (mv hN (q 108)) rfl (c (OpJ.extract (by rfl) rfl (L rfl) (q 105)) rfl (c (OpJ.extract (by rfl) rfl (L rfl) (q 105)) rfl (c (OpJ.assign (L rfl) (q 109)) rfl (c (OpJ.assign (L rfl) (q 110)) rfl cn)))))))) ?_
            refine gh [(7, _), (9, _), (17, _), (18, _), (19, _), (22, _), (23, _), (24, _), (25, _), (26, _), (27, _), (28, _)] [] hB rfl rfl (by rfl) ?_
            refine sr (c (mv hN (q 22)) rfl (c (mv hN (q 27)) rfl (c (add6 (L rfl) (q 111) (q 112)) rfl (c (mv hN (q 23)) rfl (c (mv hN (q 28)) rfl (c (add6 (L rfl) (q 114) (q 115)) rfl (c (OpJ.assign (L rfl) (q 113)) rfl (c (OpJ.assign (L rfl) (q 116)) rfl cn)))))))) ?_
            refine gh [(7, _), (9, _), (17, _), (18, _), (19, _), (22, _), (23, _), (24, _), (25, _), (26, _)] [] hB rfl rfl (by rfl) ?_
            obtain ⟨r39, hr39, h⟩ := bindS h
            refine sr (c (mv hN (q 9)) rfl (c (mv hN (q 26)) rfl (cg (OpJ.callFn hB fnOk25 (matrix_To_ac r5.1 s29.2.2.2.2 r39 hr39) [] (by kernel_rfl) (L rfl) (by kernel_rfl) (OpdL.cons (q 118) (OpdL.cons (q 119) OpdL.nil))) rfl (c (mv hN (q 120)) rfl (c (OpJ.extract (by rfl) rfl (L rfl) (q 117)) rfl (c (OpJ.extract (by rfl) rfl (L rfl) (q 117)) rfl (c (OpJ.assign (L rfl) (q 121)) rfl (c (OpJ.assign (L rfl) (q 122)) rfl cn)))))))) ?_
            refine gh [(7, _), (9, _), (17, _), (18, _), (19, _), (22, _), (23, _), (24, _), (25, _), (26, _), (27, _), (28, _)] [] hB rfl rfl (by rfl) ?_
            refine rg (c (mv hN (q 24)) rfl (c (mv hN (q 27)) rfl (c (add6 (L rfl) (q 123) (q 124)) rfl (c (mv hN (q 25)) rfl (c (mv hN (q 28)) rfl (c (add6 (L rfl) (q 126) (q 127)) rfl (c (OpJ.assign (L rfl) (q 125)) rfl (c (OpJ.assign (L rfl) (q 128)) rfl cn)))))))) ?_
            refine blkQ_n ?_
            refine seqQ_n ?_
            refine gh [(7, _), (9, _), (17, _), (18, _), (19, _), (22, _), (23, _), (24, _), (25, _), (26, _)] [] hB rfl rfl (by rfl) ?_
            refine rg (c (mv hN (q 26)) rfl (c (add6 (L rfl) (q 103) (Opd.int .i64 (1))) rfl (c (OpJ.assign (L rfl) (q 104)) rfl cn))) ?_
            obtain rfl := Option.some.inj h
            exact ⟨rfl, (Mat.trans (mp [] [(7, (qe_api_Sample_6 r2.1)), (9, (qe_api_Cell_4 r5.1)), (17, (i6 r18.1)), (18, (i6 r18.2)), (19, (i6 p24)), (22, (i6 (w64 (s29.1 + r38.1)))), (23, (i6 (w64 (s29.2.1 + r38.2)))), (24, (i6 (w64 (s29.2.2.1 + r39.1)))), (25, (i6 (w64 (s29.2.2.2.1 + r39.2)))), (26, (i6 (w64 (s29.2.2.2.2 + (1 : Int)))))] [] hB) (mp [] _ _ hB))⟩
          · replace h := ite_f hg37 h
            refine AWp.exit ?_
            refine seqQ_e ?_
            obtain rfl := Option.some.inj h
            exact ⟨(fun hc => by cases hc), rfl, (mp [] _ _ hB)⟩
        · obtain ⟨rfl, hmat⟩ := hR
          refine blkQ_hit ?_
          refine seqQ_n ?_
          refine AWp.ghost hmat ?_
          refine AWp.seq ?_
          refine AWp.cut h (fun m44 : Bool => ([(6, (bo m44))] : EL)) (fun m44 : Bool => ([] : OL)) (fun m44 h E' O' hmat => ?_) (fun j45 hjj45 h => ?_)
          · refine seqQ_n ?_
            refine AWp.ghost hmat ?_
            refine AWp.ret ?_
            obtain rfl := Option.some.inj h
            exact ⟨.inl rfl, _, _, (kp [(6, _)] [] hB rfl rfl (by rfl)), [(bo m44)], (Res.tmp (by rfl) (by rfl) Res.nil), rfl, by rfl, by rfl, by rfl⟩
          · rcases Bool.eq_false_or_eq_true ((((((r18.1 == (r2.1.length : Int)) && (r18.2 == p24)) && (p36.1 == r18.1)) && (p36.2.1 == r18.2)) && (p36.2.2.1 == r18.1)) && (p36.2.2.2 == r18.2)) with hg46 | hg46
            · replace h := ite_t hg46 h
              obtain ⟨r47, hr47, h⟩ := bindS h
              refine rg (c (mv hN (q 17)) rfl (c (mv hN (q 7)) rfl (c (OpJ.val (v' := (i6 (r2.1.length : Int))) (by simp) (OpJ.lenD Try.underlying33 (L rfl) (q 130))) rfl (c (OpJ.eqlI (L rfl) (q 129) (q 131)) rfl (c (mv hN (q 132)) rfl (c (oq hN 133 (mv hN (q 18)) (OptL.keep (by rfl) OptL.nil) (GuardV.plain _)) rfl (c (oq hN 133 (mv hN (q 19)) (OptL.keep (by rfl) OptL.nil) (GuardV.plain _)) rfl (c (oq hN 133 (OpJ.eqlI (L rfl) (q 134) (q 135)) (OptL.opt (OptL.opt OptL.nil)) (GuardV.plain _)) rfl (c (OpJ.pickAnd rfl (L rfl) (q 133) (q 136)) rfl (c (mv hN (q 137)) rfl (c (oq hN 138 (mv hN (q 22)) (OptL.keep (by rfl) OptL.nil) (GuardV.plain _)) rfl (c (oq hN 138 (mv hN (q 17)) (OptL.keep (by rfl) OptL.nil) (GuardV.plain _)) rfl (c (oq hN 138 (OpJ.eqlI (L rfl) (q 139) (q 140)) (OptL.opt (OptL.opt OptL.nil)) (GuardV.plain _)) rfl (c (OpJ.pickAnd rfl (L rfl) (q 138) (q 141)) rfl (c (mv hN (q 142)) rfl (c (oq hN 143 (mv hN (q 23)) (OptL.keep (by rfl) OptL.nil) (GuardV.plain _)) rfl (c (oq hN 143 (mv hN (q 18)) (OptL.keep (by rfl) OptL.nil) (GuardV.plain _)) rfl (c (oq hN 143 (OpJ.eqlI (L rfl) (q 144) (q 145)) (OptL.opt (OptL.opt OptL.nil)) (GuardV.plain _)) rfl (c (OpJ.pickAnd rfl (L rfl) (q 143) (q 146)) rfl (c (mv hN (q 147)) rfl (c (oq hN 148 (mv hN (q 24)) (OptL.keep (by rfl) OptL.nil) (GuardV.plain _)) rfl (c (oq hN 148 (mv hN (q 17)) (OptL.keep (by rfl) OptL.nil) (GuardV.plain _)) rfl (c (oq hN 148 (OpJ.eqlI (L rfl) (q 149) (q 150)) (OptL.opt (OptL.opt OptL.nil)) (GuardV.plain _)) rfl (c (OpJ.pickAnd rfl (L rfl) (q 148) (q 151)) rfl (c (mv hN (q 152)) rfl (c (oq hN 153 (mv hN (q 25)) (OptL.keep (by rfl) OptL.nil) (GuardV.plain _)) rfl (c (oq hN 153 (mv hN (q 18)) (OptL.keep (by rfl) OptL.nil) (GuardV.plain _)) rfl (c (oq hN 153 (OpJ.eqlI (L rfl) (q 154) (q 155)) (OptL.opt (OptL.opt OptL.nil)) (GuardV.plain _)) rfl (c (OpJ.pickAnd rfl (L rfl) (q 153) (q 156)) rfl (c (OpJ.val (v' := .d (.bool true)) (by rw [hg46]) (mv hN (q 157))) rfl (cg (OpJ.guarded (g := 158) (by rfl) (OpJ.callFn hB fnOk10 (exchangepointlaw38_awake_ac r47 hr47) [] (by kernel_rfl) (L rfl) (by kernel_rfl) OpdL.nil)) rfl (c (OpJ.pickT (L rfl) (q 158) (q 159)) rfl (c (OpJ.assign (L rfl) (q 160)) rfl cn))))))))))))))))))))))))))))))))) ?_
              exact hjj45 _ h _ _ (Mat.trans (mp [] [(6, (bo r47))] [] hB) (mp [] _ _ hB))
            · replace h := ite_f hg46 h
              refine rg (c (mv hN (q 17)) rfl (c (mv hN (q 7)) rfl (c (OpJ.val (v' := (i6 (r2.1.length : Int))) (by simp) (OpJ.lenD Try.underlying33 (L rfl) (q 130))) rfl (c (OpJ.eqlI (L rfl) (q 129) (q 131)) rfl (c (mv hN (q 132)) rfl (c (oq hN 133 (mv hN (q 18)) (OptL.keep (by rfl) OptL.nil) (GuardV.plain _)) rfl (c (oq hN 133 (mv hN (q 19)) (OptL.keep (by rfl) OptL.nil) (GuardV.plain _)) rfl (c (oq hN 133 (OpJ.eqlI (L rfl) (q 134) (q 135)) (OptL.opt (OptL.opt OptL.nil)) (GuardV.plain _)) rfl (c (OpJ.pickAnd rfl (L rfl) (q 133) (q 136)) rfl (c (mv hN (q 137)) rfl (c (oq hN 138 (mv hN (q 22)) (OptL.keep (by rfl) OptL.nil) (GuardV.plain _)) rfl (c (oq hN 138 (mv hN (q 17)) (OptL.keep (by rfl) OptL.nil) (GuardV.plain _)) rfl (c (oq hN 138 (OpJ.eqlI (L rfl) (q 139) (q 140)) (OptL.opt (OptL.opt OptL.nil)) (GuardV.plain _)) rfl (c (OpJ.pickAnd rfl (L rfl) (q 138) (q 141)) rfl (c (mv hN (q 142)) rfl (c (oq hN 143 (mv hN (q 23)) (OptL.keep (by rfl) OptL.nil) (GuardV.plain _)) rfl (c (oq hN 143 (mv hN (q 18)) (OptL.keep (by rfl) OptL.nil) (GuardV.plain _)) rfl (c (oq hN 143 (OpJ.eqlI (L rfl) (q 144) (q 145)) (OptL.opt (OptL.opt OptL.nil)) (GuardV.plain _)) rfl (c (OpJ.pickAnd rfl (L rfl) (q 143) (q 146)) rfl (c (mv hN (q 147)) rfl (c (oq hN 148 (mv hN (q 24)) (OptL.keep (by rfl) OptL.nil) (GuardV.plain _)) rfl (c (oq hN 148 (mv hN (q 17)) (OptL.keep (by rfl) OptL.nil) (GuardV.plain _)) rfl (c (oq hN 148 (OpJ.eqlI (L rfl) (q 149) (q 150)) (OptL.opt (OptL.opt OptL.nil)) (GuardV.plain _)) rfl (c (OpJ.pickAnd rfl (L rfl) (q 148) (q 151)) rfl (c (mv hN (q 152)) rfl (c (oq hN 153 (mv hN (q 25)) (OptL.keep (by rfl) OptL.nil) (GuardV.plain _)) rfl (c (oq hN 153 (mv hN (q 18)) (OptL.keep (by rfl) OptL.nil) (GuardV.plain _)) rfl (c (oq hN 153 (OpJ.eqlI (L rfl) (q 154) (q 155)) (OptL.opt (OptL.opt OptL.nil)) (GuardV.plain _)) rfl (c (OpJ.pickAnd rfl (L rfl) (q 153) (q 156)) rfl (c (OpJ.val (v' := .d (.bool false)) (by rw [hg46]) (mv hN (q 157))) rfl (cg (OpJ.skipU (g := 158) (L rfl) (by rfl)) rfl (c (OpJ.pickF (L rfl) (q 158) (Opd.bool false)) rfl (c (OpJ.assign (L rfl) (q 160)) rfl cn))))))))))))))))))))))))))))))))) ?_
              exact hjj45 _ h _ _ (Mat.trans (mp [] [(6, (bo false))] [] hB) (mp [] _ _ hB))
  · rcases Bool.eq_false_or_eq_true ((((r5.2 != (0 : Int)) || (r8.2 != (0 : Int))) || (r11.2 != (0 : Int))) || (r12.2 != (0 : Int))) with hg48 | hg48
    · replace h := ite_t hg48 h
      refine rg (c (mv hN (q 10)) rfl (c (OpJ.neqI (L rfl) (q 65) (Opd.int .i64 (0))) rfl (c (mv hN (q 66)) rfl (c (oq hN 67 (mv hN (q 12)) (OptL.keep (by rfl) OptL.nil) (GuardV.plain _)) rfl (c (oq hN 67 (OpJ.neqI (L rfl) (q 68) (Opd.int .i64 (0))) (OptL.opt OptL.nil) (GuardV.plain _)) rfl (c (OpJ.pickOr rfl (L rfl) (q 67) (q 69)) rfl (c (mv hN (q 70)) rfl (c (oq hN 71 (mv hN (q 14)) (OptL.keep (by rfl) OptL.nil) (GuardV.plain _)) rfl (c (oq hN 71 (OpJ.neqI (L rfl) (q 72) (Opd.int .i64 (0))) (OptL.opt OptL.nil) (GuardV.plain _)) rfl (c (OpJ.pickOr rfl (L rfl) (q 71) (q 73)) rfl (c (mv hN (q 74)) rfl (c (oq hN 75 (mv hN (q 16)) (OptL.keep (by rfl) OptL.nil) (GuardV.plain _)) rfl (c (oq hN 75 (OpJ.neqI (L rfl) (q 76) (Opd.int .i64 (0))) (OptL.opt OptL.nil) (GuardV.plain _)) rfl (c (OpJ.pickOr rfl (L rfl) (q 75) (q 77)) rfl (c (OpJ.val (v' := .d (.bool true)) (by rw [hg48]) (mv hN (q 78))) rfl (cg (OpJ.skipU (g := 79) (L rfl) (by rfl)) rfl (cg (OpJ.skipU (g := 79) (L rfl) (by rfl)) rfl (cg (OpJ.skipU (g := 79) (L rfl) (by rfl)) rfl (cg (OpJ.skipU (g := 79) (L rfl) (by rfl)) rfl (c (OpJ.pickT (L rfl) (q 79) (Opd.bool true)) rfl cn)))))))))))))))))))) ?_
      exact hjj16 _ h _ _ (Mat.trans (mp [] [(7, (qe_api_Sample_6 r2.1)), (9, (qe_api_Cell_4 r5.1)), (84, (bo true))] [] hB) (mp [] _ _ hB))
    · replace h := ite_f hg48 h
      obtain ⟨r49, hr49, h⟩ := bindS h
      refine rg (c (mv hN (q 10)) rfl (c (OpJ.neqI (L rfl) (q 65) (Opd.int .i64 (0))) rfl (c (mv hN (q 66)) rfl (c (oq hN 67 (mv hN (q 12)) (OptL.keep (by rfl) OptL.nil) (GuardV.plain _)) rfl (c (oq hN 67 (OpJ.neqI (L rfl) (q 68) (Opd.int .i64 (0))) (OptL.opt OptL.nil) (GuardV.plain _)) rfl (c (OpJ.pickOr rfl (L rfl) (q 67) (q 69)) rfl (c (mv hN (q 70)) rfl (c (oq hN 71 (mv hN (q 14)) (OptL.keep (by rfl) OptL.nil) (GuardV.plain _)) rfl (c (oq hN 71 (OpJ.neqI (L rfl) (q 72) (Opd.int .i64 (0))) (OptL.opt OptL.nil) (GuardV.plain _)) rfl (c (OpJ.pickOr rfl (L rfl) (q 71) (q 73)) rfl (c (mv hN (q 74)) rfl (c (oq hN 75 (mv hN (q 16)) (OptL.keep (by rfl) OptL.nil) (GuardV.plain _)) rfl (c (oq hN 75 (OpJ.neqI (L rfl) (q 76) (Opd.int .i64 (0))) (OptL.opt OptL.nil) (GuardV.plain _)) rfl (c (OpJ.pickOr rfl (L rfl) (q 75) (q 77)) rfl (c (OpJ.val (v' := .d (.bool false)) (by rw [hg48]) (mv hN (q 78))) rfl (c (OpJ.guarded (g := 79) (by rfl) (mv hN (q 9))) rfl (c (OpJ.guarded (g := 79) (by rfl) (mv hN (q 15))) rfl (cg (OpJ.guarded (g := 79) (by rfl) (OpJ.callFn hB fnOk16 (exchangepointref38_Same_ac r5.1 r12.1 r49 hr49) [] (by kernel_rfl) (L rfl) (by kernel_rfl) (OpdL.cons (q 80) (OpdL.cons (q 81) OpdL.nil)))) rfl (c (OpJ.guarded (g := 79) (by rfl) (OpJ.not (L rfl) (q 82))) rfl (c (OpJ.pickF (L rfl) (q 79) (q 83)) rfl cn)))))))))))))))))))) ?_
      exact hjj16 _ h _ _ (Mat.trans (mp [] [(7, (qe_api_Sample_6 r2.1)), (9, (qe_api_Cell_4 r5.1)), (84, (bo (!r49)))] [] hB) (mp [] _ _ hB))


end Go.Proofs.Ytpdfmjkfplgkfaa

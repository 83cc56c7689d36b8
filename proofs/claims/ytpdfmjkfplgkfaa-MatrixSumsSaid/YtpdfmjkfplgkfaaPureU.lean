/- Chapter 38 in plain Lean: two spans of time; rows and columns (MatrixSums). -/
import Derived.Test.YtpdfmjkfplgkfaaPureT
namespace Go.Proofs.Ytpdfmjkfplgkfaa
open Go Go.Vc

theorem between_eq (l : List api_Sample) (f u : Int) (hl : l.length ≤ 1000000) : exchangepointref37_Between l f u = some (l.filter fun s => decide (f ≤ s.fTick) && decide (s.fTick < u)) := by
  refine Tot.eq ?_
  unfold exchangepointref37_Between
  refine Tot.bindRng l.length (fun k b => (((k : Nat) : Int), b)) (fun k b => b = ((l.take k).filter fun s => decide (f ≤ s.fTick) && decide (s.fTick < u))) (fun x => x = (l.filter fun s => decide (f ≤ s.fTick) && decide (s.fTick < u))) [] rfl rfl (fun k b hk hb => ?_) (fun b hb => ?_) (fun x hx => Tot.some hx)
  · unfold exchangepointref37_Between_L0
    have hw : w64 ((k : Int) + 1) = ((k + 1 : Nat) : Int) := by rw [w64_id (by omega) (by omega)]; rfl
    have hlen : b.length ≤ k := by rw [hb]; exact Nat.le_trans (List.length_filter_le ..) (by rw [List.length_take]; omega)
    refine Tot.iteT (by simpa using hk) (Tot.bindIdx k rfl hk (Tot.jn (Tot.ite (fun h => Tot.chk (limB (by simp; omega)) (Tot.step (b ++ [l[k]]) (by rw [hw]) ?_)) (fun h => Tot.step b (by rw [hw]) ?_))))
    · rw [filter_snoc _ hk, if_pos h, hb]
    · rw [filter_snoc _ hk, if_neg (by rw [h]; simp), hb]
  · unfold exchangepointref37_Between_L0
    refine Tot.iteF (by simp) (Tot.last ?_)
    rw [List.take_length] at hb
    exact hb
theorem bytes_loop (turn : Int) (r2 : List api_Sample × exchangepointmill_Deck) (h : Fine r2.1) : Tot (loop (exchangepointlaw38_MatrixSums_L0 r2) ((0 : Int), (0 : Int))) (fun b => b = S fB (cs turn r2.1)) := by
  refine Tot.rng r2.1.length (fun k b => (b, ((k : Nat) : Int))) (fun k b => b = S fB (cs turn (r2.1.take k))) _ 0 rfl rfl (fun k b hk hb => ?_) (fun b hb => ?_)
  · subst hb
    unfold exchangepointlaw38_MatrixSums_L0
    have hlen := h.len
    have hw : w64 ((k : Int) + 1) = ((k + 1 : Nat) : Int) := by rw [w64_id (by omega) (by omega)]; rfl
    refine Tot.iteT (by simpa using hk) (Tot.bindIdx k rfl hk (Tot.step _ (by rw [hw]) ?_))
    have hd := (h.all _ (List.getElem_mem hk)).2.2.1
    have h1 := (cs_S turn (l := r2.1.take k) fun s hs => h.all s (List.mem_of_mem_take hs)).2
    have h0 := (S_pos (cs_pos (turn := turn) (h.sub (List.take_sublist k _)))).2.1
    rw [List.length_take] at h1
    simp only
    have e : S fB (cs turn (r2.1.take (k + 1))) = S fB (cs turn (r2.1.take k)) + (r2.1[k].fBytes + 0) := by
      rw [take_snoc hk]
      unfold cs
      rw [List.map_append, S_app]
      rfl
    rw [w64_id (by omega) (by omega), e]
    omega
  · unfold exchangepointlaw38_MatrixSums_L0
    refine Tot.iteF (by simp) (Tot.last ?_)
    rw [List.take_length] at hb
    exact hb
theorem sum_filter {m : List api_Cell} {n b : Int} (h : MatOk m n b) (hn : n ≤ 1000000) (hb : b ≤ 1000000) (p : api_Cell → Bool) : SumW (m.filter p) = (S fS (m.filter p), S fB (m.filter p)) ∧ (0 ≤ S fS (m.filter p) ∧ S fS (m.filter p) ≤ n) ∧ (0 ≤ S fB (m.filter p) ∧ S fB (m.filter p) ≤ b) := by
  have hp := pos_filter p h.pos
  have h1 := S_le_sub fS p fun c hc => (show 0 ≤ c.fSamples by have := (h.pos c hc).1; omega)
  have h2 := S_le_sub fB p fun c hc => (show 0 ≤ c.fBytes from (h.pos c hc).2)
  have h3 := S_M (m.filter p)
  have h4 := S_pos hp
  rw [h.sumS] at h1
  rw [h.sumB] at h2
  exact ⟨sumW_S hp (by omega), ⟨h4.1, h1⟩, ⟨h4.2.1, h2⟩⟩
theorem sides_loop (r5 : List api_Cell × Int) {n b : Int} (h : MatOk r5.1 n b) (hn : n ≤ 1000000) (hb : b ≤ 1000000) : loop (exchangepointlaw38_MatrixSums_L1 r5) ((0 : Int), (0 : Int), (0 : Int), (0 : Int), (101 : Int)) = some (n, b, n, b) := by
  have hl := h.len
  have F : ∀ w, matrix_From r5.1 w = some (S fS (r5.1.filter fun c => c.fFrom == w), S fB (r5.1.filter fun c => c.fFrom == w)) := fun w => by
    rw [from_eq _ _ (by omega), (sum_filter h hn hb _).1]
  have T : ∀ w, matrix_To r5.1 w = some (S fS (r5.1.filter fun c => c.fTo == w), S fB (r5.1.filter fun c => c.fTo == w)) := fun w => by
    rw [to_eq _ _ (by omega), (sum_filter h hn hb _).1]
  have bF := fun w => (sum_filter h hn hb (fun c => c.fFrom == w)).2
  have bT := fun w => (sum_filter h hn hb (fun c => c.fTo == w)).2
  have e1 := S_filter3 fS (·.fFrom) fun c hc => (h.keys c hc).1
  have e2 := S_filter3 fB (·.fFrom) fun c hc => (h.keys c hc).1
  have e3 := S_filter3 fS (·.fTo) fun c hc => (h.keys c hc).2
  have e4 := S_filter3 fB (·.fTo) fun c hc => (h.keys c hc).2
  rw [h.sumS] at e1 e3
  rw [h.sumB] at e2 e4
  have step : ∀ (k p q u v : Int), k ≤ 103 → 101 ≤ k → exchangepointlaw38_MatrixSums_L1 r5 (p, q, u, v, k) = some (.inr (w64 (p + S fS (r5.1.filter fun c => c.fFrom == k)), w64 (q + S fB (r5.1.filter fun c => c.fFrom == k)), w64 (u + S fS (r5.1.filter fun c => c.fTo == k)), w64 (v + S fB (r5.1.filter fun c => c.fTo == k)), k + 1)) := fun k p q u v hk hk2 => by
    unfold exchangepointlaw38_MatrixSums_L1
    refine ite_of_t (by simpa using hk) (bind_of (F k) (bind_of (T k) ?_))
    simp only
    rw [w64_id (n := k + 1) (by omega) (by omega)]
  have f1 := bF 101; have f2 := bF 102; have f3 := bF 103
  have t1 := bT 101; have t2 := bT 102; have t3 := bT 103
  refine loop_next (step 101 _ _ _ _ (by decide) (by decide)) (loop_next (step (101 + 1) _ _ _ _ (by decide) (by decide)) (loop_next (step (101 + 1 + 1) _ _ _ _ (by decide) (by decide)) (loop_out ?_)))
  unfold exchangepointlaw38_MatrixSums_L1
  refine ite_of_f (decide_eq_false (show ¬ ((101 : Int) + 1 + 1 + 1 ≤ 103) by decide)) ?_
  simp only [show (101 : Int) + 1 = 102 from rfl, show (102 : Int) + 1 = 103 from rfl, Int.zero_add]
  simp (disch := omega) only [w64_id]
  rw [← e1, ← e2, ← e3, ← e4]
theorem sums_law (a0 : List Int) (h0 : (∀ y ∈ a0, I64 y) ∧ a0.length ≤ maxLen) (a1 : Int) {p1 : Prop} (_ : p1) (a2 : Int) {p2 : Prop} (_ : p2) : exchangepointlaw38_MatrixSums a0 a1 a2 = some true := by
  refine Tot.eq ?_
  unfold exchangepointlaw38_MatrixSums exchangepointmill_New
  refine Tot.bind (Tot.some (Tot.bindT (samples_tot _ (new_ok a0 h0.2)) ?_))
  rintro ⟨a, d⟩ ⟨hf, _⟩
  have hl := hf.len
  simp only at hf hl ⊢
  refine Tot.bindOf (mod_eq _ 180 (by decide) (by decide)) ?_
  have ht := emod_lt' a2 (show (0 : Int) < 180 by decide)
  generalize a2 % 180 = t at ht
  refine Tot.bindOf (rules_eq a1) (Tot.bindOf (cells_eq a _ (by omega) (by simp [rules_len])) ?_)
  refine Tot.bindOf (between_eq a 0 t (by omega)) (Tot.bindOf (rules_eq a1) ?_)
  generalize hX : (a.filter fun s => decide (0 ≤ s.fTick) && decide (s.fTick < t)) = X
  have fX : Fine X := hf.sub (by rw [← hX]; exact List.filter_sublist)
  have lX := fX.len
  refine Tot.bindOf (cells_eq X _ (by omega) (by simp [rules_len])) (Tot.bindOf (between_eq a t 1073741825 (by omega)) (Tot.bindOf (rules_eq a1) ?_))
  generalize hY : (a.filter fun s => decide (t ≤ s.fTick) && decide (s.fTick < 1073741825)) = Y
  have fY : Fine Y := hf.sub (by rw [← hY]; exact List.filter_sublist)
  have lY := fY.len
  refine Tot.bindOf (cells_eq Y _ (by omega) (by simp [rules_len])) ?_
  rw [cells_fine a1 hf, cells_fine a1 fX, cells_fine a1 fY]
  simp only
  obtain ⟨mA, sA⟩ := mat_ok a1 hf
  obtain ⟨mX, sX⟩ := mat_ok a1 fX
  obtain ⟨mY, sY⟩ := mat_ok a1 fY
  have bA := (cs_S a1 hf.all).2
  have bX := (cs_S a1 fX.all).2
  have bY := (cs_S a1 fY.all).2
  have lmA := mA.len; have lmX := mX.len; have lmY := mY.len
  refine Tot.bindOf (add_eq _ _ (by show (mat a1 X).length ≤ _; omega) (by show (mat a1 Y).length ≤ _; omega)) ?_
  have part : ∀ f, S f (cs a1 a) = S f (cs a1 X) + S f (cs a1 Y) := fun f => by
    rw [← hX, ← hY]
    refine S_part f _ _ _ fun s hs => ?_
    have := (hf.all s hs).2.2.2
    by_cases h : s.fTick < t
    · simp [h, this.1]; omega
    · simp [h]; omega
  have eM : S fM (mat a1 X) + S fM (mat a1 Y) ≤ 100000 := by
    rw [S_M, S_M, mX.sumS, mX.sumB, mY.sumS, mY.sumB]; omega
  obtain ⟨zp, zs⟩ := putAll_S (mat a1 Y) (mat a1 X) mX.pos mY.pos (by omega)
  have zsort := putAll_sorted (mat a1 Y) (mat a1 X) mX.sorted
  have hz : putAll (mat a1 X) (mat a1 Y) = mat a1 a := by
    have at_ : ∀ f, Adds f → S f (putAll (mat a1 X) (mat a1 Y)) = S f (mat a1 a) := fun f hf' => by
      rw [zs f hf', sX f hf', sY f hf', sA f hf', part f]
    exact eq_of_S zsort mA.sorted zp mA.pos (fun k => at_ _ (adds_at adds_S k)) (fun k => at_ _ (adds_at adds_B k))
  have vX : ValidF (mat a1 X) = true := valid_of mX.sorted mX.pos mX.num (by rw [S_M, mX.sumS, mX.sumB]; omega) (by omega)
  have vY : ValidF (mat a1 Y) = true := valid_of mY.sorted mY.pos mY.num (by rw [S_M, mY.sumS, mY.sumB]; omega) (by omega)
  have vA : ValidF (mat a1 a) = true := valid_of mA.sorted mA.pos mA.num (by rw [S_M, mA.sumS, mA.sumB]; omega) (by omega)
  have hadd : AddF (mat a1 X) (mat a1 Y) = (mat a1 a, 0) := by
    unfold AddF
    rw [if_pos ⟨vX, vY⟩, hz, if_pos vA]
  rw [show AddF (putAll [] (List.map (cellOf (RulesL a1)) X)) (putAll [] (List.map (cellOf (RulesL a1)) Y)) = (mat a1 a, 0) from hadd]
  refine Tot.jnR (fun m : Bool => m = false) (fun j hj => ?_) (fun m hm => ?_)
  · exact Tot.iteF rfl (Tot.bindOf (same_self (mat a1 a) (by omega)) (hj _ rfl))
  · subst hm
    refine Tot.iteF rfl (Tot.bindOf (total_eq (mat a1 a) (by omega)) (Tot.bindT (bytes_loop a1 (a, d) hf) fun x hx => ?_))
    subst hx
    refine Tot.bindOf (sides_loop (mat a1 a, 0) mA (by omega) (by omega)) ?_
    rw [sumW_S mA.pos (by rw [S_M, mA.sumS, mA.sumB]; omega), mA.sumS, mA.sumB]
    exact Tot.jn (Tot.iteT (by simp) (Tot.bindOf awake_eq (Tot.some rfl)))
end Go.Proofs.Ytpdfmjkfplgkfaa

/- Chapter 39, second part: bounds and covers. -/
import Derived.Test.YtjhjijcffgmpkaaPure
namespace Go.Proofs.Ytjhjijcffgmpkaa
open Go Go.Vc
-- bounds
noncomputable def gB (a b c d : Int) : Bool := (interval_greater a b c d).getD false
theorem greater_eq (a b c d : Int) : interval_greater a b c d = some (gB a b c d) := by
  have : ∃ r, interval_greater a b c d = some r := by
    unfold interval_greater bits_Mul64
    simp only [Option.bind_some]
    unfold jn
    split <;> exact ⟨_, rfl⟩
  obtain ⟨r, h⟩ := this
  unfold gB; rw [h]; rfl
theorem above_eq (a c d : Int) : exchangepointref39_above a c d = some (gB 2000 a c d) := by
  rw [← greater_eq]
  unfold exchangepointref39_above interval_greater
  rw [show IntKind.u64.wrap 2000 = 2000 from by rfl]
noncomputable def plaus (P D : Nat) (k α : Int) (m : Nat) : Bool := gB 2000 (AL P D m k) α (C P D) && gB 2000 (AM P D m k) α (C P D)
noncomputable def bstep (P D : Nat) (k α : Int) (b : Int × Int) (m : Nat) : Int × Int := if plaus P D k α m then (if b.1 < 0 then (m : Int) else b.1, (m : Int)) else b
noncomputable def bn (P D K : Nat) (α : Int) : Nat → Int × Int
  | 0 => (-1, -1)
  | n + 1 => bstep P D K α (bn P D K α n) (K + n)

section
variable {P D K : Nat} (hP : P ≤ 60) (hD : D ≤ P) (hK : K ≤ D)
include hP hD hK
theorem tri_bounds (α : Int) : interval_triangle_bounds T P D K α = some ((bn P D K α (P - D + 1)).1, (bn P D K α (P - D + 1)).2, T) := by
  unfold interval_triangle_bounds
  refine bind_of (tri_choose _ _ (by omega)) ?_
  rw [CI_nat]
  obtain ⟨x, hx, h⟩ := loop_meas (tb := interval_triangle_bounds_L0 P D K α ((C P D : Int), T)) (fun s => ∃ n : Nat, n ≤ P - D + 1 ∧ s = ((bn P D K α n).1, (bn P D K α n).2, ((K + n : Nat) : Int), T)) (fun s => K + (P - D + 1) - s.2.2.1.toNat) (fun x => x = ((bn P D K α (P - D + 1)).1, (bn P D K α (P - D + 1)).2, T)) (by
    rintro s ⟨n, hn, rfl⟩
    unfold interval_triangle_bounds_L0
    dsimp only
    have hw : w64 ((P : Int) - w64 ((D : Int) - K)) = ((P - D + K : Nat) : Int) := by
      rw [w64_id (n := (D : Int) - K) (by omega) (by omega), w64_id (by omega) (by omega)]; omega
    rw [hw]
    by_cases hlt : n ≤ P - D
    · right
      refine ⟨((bn P D K α (n + 1)).1, (bn P D K α (n + 1)).2, ((K + (n + 1) : Nat) : Int), T), ⟨n + 1, by omega, rfl⟩, by simp; omega, ?_⟩
      refine ite_of_t (by simp; omega) ?_
      refine bind_of (tails_eq (M := K + n) hP hD (by omega) (K : Int)) ?_
      unfold jn
      have hk1 : w64 (((K + n : Nat) : Int) + 1) = ((K + (n + 1) : Nat) : Int) := by rw [w64_id (by omega) (by omega)]; omega
      dsimp only
      rw [hk1]
      refine bind_of (greater_eq _ _ _ _) ?_
      have hs : bn P D K α (n + 1) = bstep P D K α (bn P D K α n) (K + n) := rfl
      rw [hs]
      generalize bn P D K α n = b at *
      unfold bstep plaus
      cases h1 : gB 2000 (AL P D (K + n) (K : Int)) α (C P D) with
      | false =>
        refine ite_of_f rfl ?_
        exact ite_of_f rfl (by simp)
      | true =>
        refine ite_of_t rfl ?_
        refine bind_of (greater_eq _ _ _ _) ?_
        cases h2 : gB 2000 (AM P D (K + n) (K : Int)) α (C P D) with
        | false => exact ite_of_f rfl (by simp)
        | true =>
          refine ite_of_t rfl ?_
          by_cases hl : b.1 < 0
          · exact ite_of_t (by simpa using hl) (by simp [hl])
          · exact ite_of_f (by simpa using hl) (by simp [hl])
    · left
      have : n = P - D + 1 := by omega
      subst this
      exact ⟨_, rfl, ite_of_f (by simp; omega) rfl⟩) (s := ((-1 : Int), (-1 : Int), (K : Int), T)) ⟨0, by omega, rfl⟩
  subst hx
  exact bind_of h rfl

omit hK in
theorem ref_plausible (α : Int) {M : Nat} (hM : M ≤ P) : exchangepointref39_plausible P D M K α = some (plaus P D K α M) := by
  unfold exchangepointref39_plausible
  refine bind_of (ref_choose _ _ (by omega)) ?_
  rw [CI_nat]
  refine bind_of (ref_atLeast hP hD hM K) ?_
  refine bind_of (ref_atMost hP hD hM K) ?_
  unfold jn
  refine bind_of (above_eq _ _ _) ?_
  unfold plaus
  cases h1 : gB 2000 (AL P D M (K : Int)) α (C P D) with
  | false => exact ite_of_f rfl rfl
  | true =>
    refine ite_of_t rfl ?_
    refine bind_of (above_eq _ _ _) ?_
    rfl

theorem ref_bounds_loop (α : Int) : loop (exchangepointref39_Bounds_L0 P D K α) ((-1 : Int), (-1 : Int), (K : Int)) = some ((bn P D K α (P - D + 1)).1, (bn P D K α (P - D + 1)).2) := by
  obtain ⟨x, hx, h⟩ := loop_meas (tb := exchangepointref39_Bounds_L0 P D K α) (fun s => ∃ n : Nat, n ≤ P - D + 1 ∧ s = ((bn P D K α n).1, (bn P D K α n).2, ((K + n : Nat) : Int))) (fun s => K + (P - D + 1) - s.2.2.toNat) (fun x => x = ((bn P D K α (P - D + 1)).1, (bn P D K α (P - D + 1)).2)) (by
    rintro s ⟨n, hn, rfl⟩
    unfold exchangepointref39_Bounds_L0
    dsimp only
    have hw : w64 ((P : Int) - w64 ((D : Int) - K)) = ((P - D + K : Nat) : Int) := by
      rw [w64_id (n := (D : Int) - K) (by omega) (by omega), w64_id (by omega) (by omega)]; omega
    rw [hw]
    by_cases hlt : n ≤ P - D
    · right
      refine ⟨((bn P D K α (n + 1)).1, (bn P D K α (n + 1)).2, ((K + (n + 1) : Nat) : Int)), ⟨n + 1, by omega, rfl⟩, by simp; omega, ?_⟩
      refine ite_of_t (by simp; omega) ?_
      refine bind_of (ref_plausible hP hD α (by omega)) ?_
      unfold jn
      have hk1 : w64 (((K + n : Nat) : Int) + 1) = ((K + (n + 1) : Nat) : Int) := by rw [w64_id (by omega) (by omega)]; omega
      dsimp only
      rw [hk1]
      have hs : bn P D K α (n + 1) = bstep P D K α (bn P D K α n) (K + n) := rfl
      rw [hs]
      generalize bn P D K α n = b at *
      unfold bstep
      cases h1 : plaus P D K α (K + n) with
      | false => exact ite_of_f rfl (by simp)
      | true =>
        refine ite_of_t rfl ?_
        by_cases hl : b.1 < 0
        · exact ite_of_t (by simpa using hl) (by simp [hl])
        · exact ite_of_f (by simpa using hl) (by simp [hl])
    · left
      have : n = P - D + 1 := by omega
      subst this
      exact ⟨_, rfl, ite_of_f (by simp; omega) rfl⟩) (s := ((-1 : Int), (-1 : Int), (K : Int))) ⟨0, by omega, rfl⟩
  rw [h, hx]

theorem int_bounds {α : Int} (h1 : 1 ≤ α) (h2 : α < 1000) : interval_Bounds P D K α = some ((bn P D K α (P - D + 1)).1, (bn P D K α (P - D + 1)).2, 0) := by
  unfold interval_Bounds
  refine bind_of (x := true) (by unfold interval_valid; simp; omega) ?_
  refine ite_of_f (by simp; omega) ?_
  refine bind_of pascal_eq ?_
  exact bind_of (tri_bounds hP hD hK α) rfl
theorem ref_bounds {α : Int} (h1 : 1 ≤ α) (h2 : α < 1000) : exchangepointref39_Bounds P D K α = some ((bn P D K α (P - D + 1)).1, (bn P D K α (P - D + 1)).2, 0) := by
  unfold exchangepointref39_Bounds
  refine bind_of (x := false) (by unfold exchangepointref39_bad; simp; omega) ?_
  refine ite_of_f (by simp; omega) ?_
  exact bind_of (ref_bounds_loop hP hD hK α) rfl
end

theorem bounds_any (p d k α : Int) : ∃ x, interval_Bounds p d k α = some x ∧ exchangepointref39_Bounds p d k α = some x := by
  by_cases hv : 0 ≤ p ∧ p ≤ 60 ∧ 0 ≤ d ∧ d ≤ p ∧ 1 ≤ α ∧ α < 1000
  · by_cases hk : 0 ≤ k ∧ k ≤ d
    · obtain ⟨P, rfl⟩ : ∃ P : Nat, p = P := ⟨p.toNat, by omega⟩
      obtain ⟨D, rfl⟩ : ∃ D : Nat, d = D := ⟨d.toNat, by omega⟩
      obtain ⟨K, rfl⟩ : ∃ K : Nat, k = K := ⟨k.toNat, by omega⟩
      exact ⟨_, int_bounds (by omega) (by omega) (by omega) (by omega) (by omega), ref_bounds (by omega) (by omega) (by omega) (by omega) (by omega)⟩
    · refine ⟨(0, 0, 1), ?_, ?_⟩
      · unfold interval_Bounds
        refine bind_of (x := true) (by unfold interval_valid; simp; omega) ?_
        exact ite_of_t (by simp; omega) rfl
      · unfold exchangepointref39_Bounds
        refine bind_of (x := false) (by unfold exchangepointref39_bad; simp; omega) ?_
        exact ite_of_t (by simp; omega) rfl
  · refine ⟨(0, 0, 1), ?_, ?_⟩
    · unfold interval_Bounds
      refine bind_of (x := false) (by unfold interval_valid; simp; omega) ?_
      exact ite_of_t (by simp) rfl
    · unfold exchangepointref39_Bounds
      have hb : ∃ b, exchangepointref39_bad p d 0 = some b ∧ (b = true ∨ (α < 1 ∨ 1000 ≤ α)) := by
        unfold exchangepointref39_bad
        refine ⟨_, rfl, ?_⟩
        simp only [Bool.or_eq_true, decide_eq_true_eq]
        omega
      obtain ⟨b, h1, h2⟩ := hb
      refine bind_of h1 ?_
      refine ite_of_t ?_ rfl
      simp only [Bool.or_eq_true, decide_eq_true_eq]
      rcases h2 with h2 | h2
      · simp [h2]
      · omega

theorem EN_pos {P D M j : Nat} : 0 < EN P D M j ↔ j ≤ M ∧ D - j ≤ P - M := by
  unfold EN
  constructor
  · intro h
    refine ⟨?_, ?_⟩
    · rcases Nat.lt_or_ge M j with h1 | h1
      · rw [C_lt M j h1] at h; simp at h
      · exact h1
    · rcases Nat.lt_or_ge (P - M) (D - j) with h1 | h1
      · rw [C_lt _ _ h1] at h; simp at h
      · exact h1
  · rintro ⟨h1, h2⟩
    exact Nat.mul_pos (C_pos M j h1) (C_pos _ _ h2)
/-- what is covered -/
noncomputable def cv (P D M : Nat) (α : Int) (j : Nat) : Nat := if 0 < EN P D M j ∧ (bn P D j α (P - D + 1)).1 ≤ M ∧ (M : Int) ≤ (bn P D j α (P - D + 1)).2 then EN P D M j else 0
section
variable {P D M : Nat} (hP : P ≤ 60) (hD : D ≤ P) (hM : M ≤ P)
include hP hM
theorem cv_le (α : Int) {j : Nat} (hj : j ≤ D + 1) : S (cv P D M α) j ≤ 1152921504606846976 := by
  have h1 : S (cv P D M α) j ≤ S (EN P D M) j := S_le j fun i _ => by unfold cv; split <;> omega
  have h2 := S_mono (EN P D M) hj
  rw [EN_sum hM] at h2
  have := CP_le (P := P) (D := D) hP
  omega
include hD
theorem int_cover {α : Int} (h1 : 1 ≤ α) (h2 : α < 1000) : interval_Cover P D M α = some ((S (cv P D M α) (D + 1) : Int), (C P D : Int), 0) := by
  unfold interval_Cover
  refine bind_of (x := true) (by unfold interval_valid; simp; omega) ?_
  refine ite_of_f (by rfl) ?_
  refine bind_of pascal_eq ?_
  obtain ⟨x, hx, h⟩ := loop_meas (tb := interval_Cover_L0 P D M α) (fun s => ∃ j : Nat, j ≤ D + 1 ∧ s = ((S (cv P D M α) j : Int), (j : Int), T)) (fun s => D + 1 - s.2.1.toNat) (fun x => x = ((S (cv P D M α) (D + 1) : Int), T)) (by
    rintro s ⟨j, hj, rfl⟩
    unfold interval_Cover_L0
    dsimp only
    by_cases hlt : j ≤ D
    · right
      refine ⟨((S (cv P D M α) (j + 1) : Int), ((j + 1 : Nat) : Int), T), ⟨j + 1, by omega, rfl⟩, by simp; omega, ?_⟩
      refine ite_of_t (by simp; omega) ?_
      refine bind_of (tri_exactly hP hD hM hlt) ?_
      unfold jn
      have hj1 : w64 ((j : Int) + 1) = ((j + 1 : Nat) : Int) := by rw [w64_id (by omega) (by omega)]; rfl
      dsimp only
      rw [hj1]
      have b1 := cv_le (D := D) hP hM α (show j + 1 ≤ D + 1 from by omega)
      have s1 : S (cv P D M α) (j + 1) = S (cv P D M α) j + cv P D M α j := rfl
      rw [s1] at b1 ⊢
      generalize S (cv P D M α) j = A at *
      by_cases hpos : 0 < EN P D M j
      · refine ite_of_t (by simpa using hpos) ?_
        refine bind_of (tri_bounds hP hD hlt α) ?_
        dsimp only
        by_cases hin : (bn P D j α (P - D + 1)).1 ≤ M ∧ (M : Int) ≤ (bn P D j α (P - D + 1)).2
        · have hc : cv P D M α j = EN P D M j := if_pos ⟨hpos, hin⟩
          rw [hc] at b1 ⊢
          refine ite_of_t (by simpa using hin) ?_
          rw [w64_id (by omega) (by omega)]
          rfl
        · have hc : cv P D M α j = 0 := if_neg fun e => hin e.2
          rw [hc]
          exact ite_of_f (by simp only [Bool.and_eq_false_iff, decide_eq_false_iff_not]; omega) rfl
      · have hc : cv P D M α j = 0 := if_neg fun e => hpos e.1
        rw [hc]
        exact ite_of_f (by simp only [decide_eq_false_iff_not]; omega) rfl
    · left
      have : j = D + 1 := by omega
      subst this
      exact ⟨_, rfl, ite_of_f (by simp; omega) rfl⟩) (s := ((0 : Int), (0 : Int), T)) ⟨0, by omega, rfl⟩
  subst hx
  refine bind_of h ?_
  refine bind_of (tri_choose _ _ (by omega)) ?_
  rw [CI_nat]
theorem ref_cover {α : Int} (h1 : 1 ≤ α) (h2 : α < 1000) : exchangepointref39_Cover P D M α = some ((S (cv P D M α) (D + 1) : Int), (C P D : Int), 0) := by
  unfold exchangepointref39_Cover
  refine bind_of (x := false) (by unfold exchangepointref39_bad; simp; omega) ?_
  refine ite_of_f (by simp; omega) ?_
  obtain ⟨x, hx, h⟩ := loop_meas (tb := exchangepointref39_Cover_L0 P D M α) (fun s => ∃ j : Nat, j ≤ D + 1 ∧ s = ((S (cv P D M α) j : Int), (j : Int))) (fun s => D + 1 - s.2.toNat) (fun x => x = (S (cv P D M α) (D + 1) : Int)) (by
    rintro s ⟨j, hj, rfl⟩
    unfold exchangepointref39_Cover_L0
    dsimp only
    by_cases hlt : j ≤ D
    · right
      refine ⟨((S (cv P D M α) (j + 1) : Int), ((j + 1 : Nat) : Int)), ⟨j + 1, by omega, rfl⟩, by simp; omega, ?_⟩
      refine ite_of_t (by simp; omega) ?_
      unfold jn
      have hj1 : w64 ((j : Int) + 1) = ((j + 1 : Nat) : Int) := by rw [w64_id (by omega) (by omega)]; rfl
      rw [hj1]
      have b1 := cv_le (D := D) hP hM α (show j + 1 ≤ D + 1 from by omega)
      have s1 : S (cv P D M α) (j + 1) = S (cv P D M α) j + cv P D M α j := rfl
      rw [s1] at b1 ⊢
      generalize S (cv P D M α) j = A at *
      have hw1 : w64 ((P : Int) - M) = ((P - M : Nat) : Int) := by rw [w64_id (by omega) (by omega)]; omega
      have hw2 : w64 ((D : Int) - j) = ((D - j : Nat) : Int) := by rw [w64_id (by omega) (by omega)]; omega
      rw [hw1, hw2]
      have hp := EN_pos (P := P) (D := D) (M := M) (j := j)
      by_cases hpos : 0 < EN P D M j
      · have hq := hp.1 hpos
        refine ite_of_f (by simp only [Bool.or_eq_false_iff, decide_eq_false_iff_not]; omega) ?_
        refine bind_of (ref_bounds hP hD hlt h1 h2) ?_
        dsimp only
        by_cases hin : (bn P D j α (P - D + 1)).1 ≤ M ∧ (M : Int) ≤ (bn P D j α (P - D + 1)).2
        · have hc : cv P D M α j = EN P D M j := if_pos ⟨hpos, hin⟩
          rw [hc] at b1 ⊢
          refine ite_of_t (by simpa using hin) ?_
          refine bind_of (ref_exactly hP hD hM hlt) ?_
          rw [w64_id (by omega) (by omega)]
          rfl
        · have hc : cv P D M α j = 0 := if_neg fun e => hin e.2
          rw [hc]
          exact ite_of_f (by simp only [Bool.and_eq_false_iff, decide_eq_false_iff_not]; omega) rfl
      · have hc : cv P D M α j = 0 := if_neg fun e => hpos e.1
        rw [hc]
        refine ite_of_t ?_ rfl
        simp only [Bool.or_eq_true, decide_eq_true_eq]
        have hq : ¬ (j ≤ M ∧ D - j ≤ P - M) := fun e => hpos (hp.2 e)
        omega
    · left
      have : j = D + 1 := by omega
      subst this
      exact ⟨_, rfl, ite_of_f (by simp; omega) rfl⟩) (s := ((0 : Int), (0 : Int))) ⟨0, by omega, rfl⟩
  subst hx
  refine bind_of h ?_
  refine bind_of (ref_choose _ _ (by omega)) ?_
  rw [CI_nat]
end
theorem bounds_step (m5 r7 r8 r9 r10 x12 r13 r14 r15 r16 : Int) (i : Nat) (n k t α : Int) (hi : i < 3)
    (hg : ([([m5, r7, r8, (w64 ((1 : Int) + r9))] : List Int), ([m5, r7, (w64 (r10 - (2 : Int))), x12] : List Int), ([(w64 (r13 - (2 : Int))), (w64 (r14 - (2 : Int))), (w64 (r15 - (2 : Int))), (w64 (r16 - (1 : Int)))] : List Int)] : List (List Int))[i]? = some [n, k, t, α]) :
    exchangepointlaw39_IntervalBounds_L0 m5 r7 r8 r9 r10 x12 r13 r14 r15 r16 (i : Int) = some (.inr ((i + 1 : Nat) : Int)) := by
  obtain ⟨x, e1, e2⟩ := bounds_any n k t α
  unfold exchangepointlaw39_IntervalBounds_L0
  refine ite_of_t (by simp; omega) ?_
  refine bind_of (idx_get hg) ?_
  refine bind_of (x := n) rfl ?_
  refine bind_of (x := k) rfl ?_
  refine bind_of (x := t) rfl ?_
  refine bind_of (x := α) rfl ?_
  refine bind_of e1 ?_
  refine bind_of (x := n) rfl ?_
  refine bind_of (x := k) rfl ?_
  refine bind_of (x := t) rfl ?_
  refine bind_of (x := α) rfl ?_
  refine bind_of e2 ?_
  refine ite_of_f (by simp) ?_
  rw [w64_id (n := (i : Int) + 1) (by omega) (by omega)]
  rfl
theorem bounds_loop (m5 r7 r8 r9 r10 x12 r13 r14 r15 r16 : Int) : loop (exchangepointlaw39_IntervalBounds_L0 m5 r7 r8 r9 r10 x12 r13 r14 r15 r16) (0 : Int) = some (.inr ()) := by
  refine loop_next (bounds_step m5 r7 r8 r9 r10 x12 r13 r14 r15 r16 0 m5 r7 r8 (w64 (1 + r9)) (by omega) rfl) ?_
  refine loop_next (bounds_step m5 r7 r8 r9 r10 x12 r13 r14 r15 r16 1 m5 r7 (w64 (r10 - 2)) x12 (by omega) rfl) ?_
  refine loop_next (bounds_step m5 r7 r8 r9 r10 x12 r13 r14 r15 r16 2 (w64 (r13 - 2)) (w64 (r14 - 2)) (w64 (r15 - 2)) (w64 (r16 - 1)) (by omega) rfl) ?_
  refine loop_out ?_
  rfl

theorem bounds_core (a0 a1 a2 a3 a4 m5 : Int) (h0 : 0 ≤ m5) (h1 : m5 ≤ 60) :
    ((exchangepointmill_Mod a1 (w64 (m5 + (1 : Int)))).bind fun r7 =>
    (exchangepointmill_Mod a3 (w64 (r7 + (1 : Int)))).bind fun r8 =>
    (exchangepointmill_Mod a4 (999 : Int)).bind fun r9 =>
    (exchangepointmill_Mod a3 (w64 (r7 + (4 : Int)))).bind fun r10 =>
    (exchangepointmill_Mod a4 (6 : Int)).bind fun r11 =>
    (idx ([(1 : Int), (10 : Int), (50 : Int), (100 : Int), (500 : Int), (999 : Int)] : List Int) r11).bind fun x12 =>
    (exchangepointmill_Mod a0 (20 : Int)).bind fun r13 =>
    (exchangepointmill_Mod a1 (20 : Int)).bind fun r14 =>
    (exchangepointmill_Mod a3 (20 : Int)).bind fun r15 =>
    (exchangepointmill_Mod a4 (1003 : Int)).bind fun r16 =>
    (loop (exchangepointlaw39_IntervalBounds_L0 m5 r7 r8 r9 r10 x12 r13 r14 r15 r16) (0 : Int)).bind fun x59 => match x59 with
    | (.inl _) =>
      some false
    | (.inr _) =>
      (exchangepointmill_Mod a2 (w64 ((minI m5 (16 : Int)) + (1 : Int)))).bind fun r61 =>
      (exchangepointmill_Mod a4 (999 : Int)).bind fun r62 =>
      (interval_Cover (minI m5 (16 : Int)) (minI r7 (minI m5 (16 : Int))) r61 (w64 ((1 : Int) + r62))).bind fun r63 =>
      (exchangepointmill_Mod a2 (w64 ((minI m5 (16 : Int)) + (1 : Int)))).bind fun r64 =>
      (exchangepointmill_Mod a4 (999 : Int)).bind fun r65 =>
      (exchangepointref39_Cover (minI m5 (16 : Int)) (minI r7 (minI m5 (16 : Int))) r64 (w64 ((1 : Int) + r65))).bind fun r66 =>
      jn (fun m69 : Bool =>
      some m69) (fun j70 =>
      (if (((r63.1 == r66.1) && (r63.2.1 == r66.2.1)) && (r63.2.2 == r66.2.2)) = true then
      (exchangepointlaw39_awake).bind fun r72 =>
      j70 r72
      else
      j70 false))) = some true := by
  rw [w64_id (n := m5 + 1) (by omega) (by omega)]
  obtain ⟨s0, s1⟩ := emod_lt' a1 (m := m5 + 1) (by omega)
  refine bind_of (mod_eq a1 (m5 + 1) (by omega) (by omega)) ?_
  generalize a1 % (m5 + 1) = R7 at *
  rw [w64_id (n := R7 + 1) (by omega) (by omega), w64_id (n := R7 + 4) (by omega) (by omega)]
  refine bind_of (mod_eq a3 (R7 + 1) (by omega) (by omega)) ?_
  refine bind_of (mod_eq a4 999 (by omega) (by omega)) ?_
  refine bind_of (mod_eq a3 (R7 + 4) (by omega) (by omega)) ?_
  refine bind_of (mod_eq a4 6 (by omega) (by omega)) ?_
  obtain ⟨q0, q1⟩ := emod_lt' a4 (m := 6) (by omega)
  have hx : ∃ x, idx ([(1 : Int), (10 : Int), (50 : Int), (100 : Int), (500 : Int), (999 : Int)] : List Int) (a4 % 6) = some x := by
    obtain ⟨k, hk⟩ : ∃ k : Nat, a4 % 6 = k := ⟨(a4 % 6).toNat, by omega⟩
    rw [hk]
    exact ⟨_, idx_get (List.getElem?_eq_getElem (by simp; omega))⟩
  obtain ⟨x12, hx⟩ := hx
  refine bind_of hx ?_
  refine bind_of (mod_eq a0 20 (by omega) (by omega)) ?_
  refine bind_of (mod_eq a1 20 (by omega) (by omega)) ?_
  refine bind_of (mod_eq a3 20 (by omega) (by omega)) ?_
  refine bind_of (mod_eq a4 1003 (by omega) (by omega)) ?_
  refine bind_of (bounds_loop _ _ _ _ _ _ _ _ _ _) ?_
  obtain ⟨Q, hQ⟩ : ∃ Q : Nat, minI m5 16 = Q := ⟨(minI m5 16).toNat, by unfold minI; split <;> omega⟩
  have hQ16 : Q ≤ 16 := by have : minI m5 16 ≤ 16 := by { unfold minI; split <;> omega }
                           omega
  obtain ⟨D, hD⟩ : ∃ D : Nat, minI R7 (Q : Int) = D := ⟨(minI R7 Q).toNat, by unfold minI; split <;> omega⟩
  have hDQ : D ≤ Q := by have : minI R7 (Q : Int) ≤ Q := by { unfold minI; split <;> omega }
                         omega
  show ((exchangepointmill_Mod a2 (w64 ((minI m5 (16 : Int)) + (1 : Int)))).bind _) = _
  rw [hQ, hD]
  rw [w64_id (n := (Q : Int) + 1) (by omega) (by omega)]
  obtain ⟨t0, t1⟩ := emod_lt' a2 (m := (Q : Int) + 1) (by omega)
  obtain ⟨u0, u1⟩ := emod_lt' a4 (m := 999) (by omega)
  refine bind_of (mod_eq a2 _ (by omega) (by omega)) ?_
  refine bind_of (mod_eq a4 999 (by omega) (by omega)) ?_
  have ha : w64 (1 + a4 % 999) = 1 + a4 % 999 := w64_id (by omega) (by omega)
  obtain ⟨M, hM⟩ : ∃ M : Nat, a2 % ((Q : Int) + 1) = M := ⟨(a2 % ((Q : Int) + 1)).toNat, by omega⟩
  rw [hM, ha]
  refine bind_of (int_cover (P := Q) (D := D) (M := M) (by omega) hDQ (by omega) (by omega) (by omega)) ?_
  refine bind_of (mod_eq a2 _ (by omega) (by omega)) ?_
  refine bind_of (mod_eq a4 999 (by omega) (by omega)) ?_
  rw [hM, ha]
  refine bind_of (ref_cover (P := Q) (D := D) (M := M) (by omega) hDQ (by omega) (by omega) (by omega)) ?_
  unfold jn
  refine ite_of_t (by simp) ?_
  exact bind_of awake_eq rfl

theorem bounds_eq (a0 : Int) (_ : I64 a0) (a1 : Int) (_ : I64 a1) (a2 : Int) (_ : I64 a2) (a3 : Int) (_ : I64 a3) (a4 : Int) (_ : I64 a4) : exchangepointlaw39_IntervalBounds a0 a1 a2 a3 a4 = some true := by
  unfold exchangepointlaw39_IntervalBounds
  obtain ⟨p0, p1⟩ := emod_lt' a0 (m := 17) (by omega)
  obtain ⟨q0, q1⟩ := emod_lt' a0 (m := 61) (by omega)
  refine bind_of (mod_eq a0 17 (by omega) (by omega)) ?_
  refine bind_of (mod_eq a3 40 (by omega) (by omega)) ?_
  show jn _ _ = _
  unfold jn
  by_cases h : a3 % 40 = 0
  · refine ite_of_t (by simp [h]) ?_
    refine bind_of (mod_eq a0 61 (by omega) (by omega)) ?_
    exact bounds_core a0 a1 a2 a3 a4 (a0 % 61) q0 (by omega)
  · refine ite_of_f (by simp [h]) ?_
    exact bounds_core a0 a1 a2 a3 a4 (a0 % 17) p0 (by omega)
end Go.Proofs.Ytjhjijcffgmpkaa

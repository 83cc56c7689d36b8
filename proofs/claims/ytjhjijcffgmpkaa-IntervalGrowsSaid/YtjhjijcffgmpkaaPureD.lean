/- Chapter 39, fourth part: how the bounds grow. -/
import Derived.Test.YtjhjijcffgmpkaaPureC
namespace Go.Proofs.Ytjhjijcffgmpkaa
open Go Go.Vc

theorem bn_spec (P D K : Nat) (α : Int) : ∀ n : Nat, (bn P D K α n = (-1, -1) ∧ ∀ i, i < n → plaus P D K α (K + i) = false) ∨
    ∃ i1 i2, i1 ≤ i2 ∧ i2 < n ∧ plaus P D K α (K + i1) = true ∧ plaus P D K α (K + i2) = true ∧ bn P D K α n = (((K + i1 : Nat) : Int), ((K + i2 : Nat) : Int))
  | 0 => .inl ⟨rfl, fun i h => by omega⟩
  | n + 1 => by
    have hs : bn P D K α (n + 1) = bstep P D K α (bn P D K α n) (K + n) := rfl
    rw [hs]
    unfold bstep
    rcases bn_spec P D K α n with ⟨h1, h2⟩ | ⟨i1, i2, h1, h2, h3, h4, h5⟩
    · rw [h1]
      cases hp : plaus P D K α (K + n) with
      | false =>
        refine .inl ⟨by simp, fun i hi => ?_⟩
        by_cases he : i = n
        · subst he; exact hp
        · exact h2 i (by omega)
      | true => exact .inr ⟨n, n, Nat.le_refl _, by omega, hp, hp, by simp⟩
    · rw [h5]
      cases hp : plaus P D K α (K + n) with
      | false => exact .inr ⟨i1, i2, h1, by omega, h3, h4, by simp⟩
      | true =>
        refine .inr ⟨i1, n, by omega, by omega, h3, hp, ?_⟩
        simp only [if_true]
        rw [if_neg (by omega)]

theorem plaus_24 {P D : Nat} {k : Int} {A M : Nat} (hP : P ≤ 24) (hM : M ≤ P) (hA : A < 1000) : plaus P D k A M = (decide (A * C P D < 2000 * AL P D M k) && decide (A * C P D < 2000 * AM P D M k)) := by
  have hC : C P D ≤ 16777216 := Nat.le_trans (C_pow P D) (Nat.pow_le_pow_right (n := 2) (by omega) hP)
  have h1 := AL_le (D := D) hM k
  have h2 := AM_le (D := D) hM k
  unfold plaus
  rw [gB_small (by omega) (by omega) (by omega) (by omega) (by omega) (by omega) (by omega) (by omega), gB_small (by omega) (by omega) (by omega) (by omega) (by omega) (by omega) (by omega) (by omega)]
  congr 1
  · rw [decide_eq_decide]; omega
  · rw [decide_eq_decide]; omega

theorem AL_down {P D M : Nat} (k : Nat) : AL P D M ((k + 1 : Nat) : Int) ≤ AL P D M (k : Int) :=
  S_le _ fun i _ => by unfold fa; split <;> split <;> omega
theorem AM_up {P D M : Nat} (k : Nat) : AM P D M (k : Int) ≤ AM P D M ((k + 1 : Nat) : Int) :=
  S_le _ fun i _ => by unfold fb; split <;> split <;> omega

/-- one more marked thing is at most one more found -/
theorem AL_shift {P D M : Nat} (hM : M + 1 ≤ P) (k : Nat) : AL P D (M + 1) ((k + 1 : Nat) : Int) ≤ AL P D M (k : Int) := by
  obtain ⟨Q, rfl⟩ : ∃ Q, P = M + 1 + Q := ⟨P - (M + 1), by omega⟩
  have e1 : AL (M + 1 + Q) D (M + 1) ((k + 1 : Nat) : Int) = S (fun i => (if k ≤ i then C M i * C Q (D - (i + 1)) else 0) + (if k ≤ i then C M (i + 1) * C Q (D - (i + 1)) else 0)) D := by
    unfold AL
    rw [S_first, show fa (M + 1 + Q) D (M + 1) ((k + 1 : Nat) : Int) 0 = 0 from if_neg (by omega), Nat.zero_add]
    refine S_congr _ fun i _ => ?_
    unfold fa EN
    rw [show M + 1 + Q - (M + 1) = Q from by omega]
    by_cases h : k ≤ i
    · rw [if_pos (by omega), if_pos h, if_pos h, ← Nat.add_mul]; rfl
    · rw [if_neg (by omega), if_neg h, if_neg h]
  have e2 : AL (M + 1 + Q) D M (k : Int) = S (fun i => (if k ≤ i then C M i * C Q (D - (i + 1)) else 0)) D + S (fun j => if k ≤ j then C M j * C Q (D - j) else 0) (D + 1) := by
    unfold AL
    show S (fa (M + 1 + Q) D M (k : Int)) D + fa (M + 1 + Q) D M (k : Int) D = _ + (S (fun j => if k ≤ j then C M j * C Q (D - j) else 0) D + (if k ≤ D then C M D * C Q (D - D) else 0))
    rw [← Nat.add_assoc, ← S_add]
    congr 1
    · refine S_congr _ fun i hi => ?_
      unfold fa EN
      rw [show M + 1 + Q - M = Q + 1 from by omega]
      by_cases h : k ≤ i
      · rw [if_pos (by omega), if_pos h, if_pos h, ← Nat.mul_add]
        obtain ⟨d, hd⟩ : ∃ d, D - i = d + 1 := ⟨D - i - 1, by omega⟩
        rw [hd, show D - (i + 1) = d from by omega]
        rfl
      · rw [if_neg (by omega), if_neg h, if_neg h]
    · unfold fa EN
      by_cases h : k ≤ D
      · rw [if_pos (by omega), if_pos h, Nat.sub_self, C_zero, C_zero]
      · rw [if_neg (by omega), if_neg h]
  rw [e1, e2, S_add]
  have h3 : S (fun i => if k ≤ i then C M (i + 1) * C Q (D - (i + 1)) else 0) D ≤ S (fun j => if k ≤ j then C M j * C Q (D - j) else 0) (D + 1) := by
    rw [S_first]
    have : S (fun i => if k ≤ i then C M (i + 1) * C Q (D - (i + 1)) else 0) D ≤ S (fun i => if k ≤ i + 1 then C M (i + 1) * C Q (D - (i + 1)) else 0) D :=
      S_le _ fun i _ => by split <;> split <;> omega
    omega
  omega

theorem AM_eq {P D M : Nat} (hM : M ≤ P) (k : Nat) : AL P D M ((k + 1 : Nat) : Int) + AM P D M (k : Int) = C P D := by
  have := AL_AM (D := D) hM ((k + 1 : Nat) : Int)
  rwa [show ((k + 1 : Nat) : Int) - 1 = (k : Int) from by omega] at this
theorem AL_top {P D K : Nat} (hD : D ≤ P) (hK : K ≤ D) : AL P D (P - D + K) (K : Int) = C P D := by
  rw [← EN_sum (P := P) (D := D) (M := P - D + K) (by omega)]
  refine S_congr _ fun i hi => ?_
  unfold fa
  by_cases h : K ≤ i
  · rw [if_pos (by omega)]
  · rw [if_neg (by omega)]
    unfold EN
    rw [C_lt (P - (P - D + K)) (D - i) (by omega), Nat.mul_zero]
theorem AM_bot {P D K : Nat} (hK : K ≤ P) : AM P D K (K : Int) = C P D := by
  rw [← EN_sum (P := P) (D := D) (M := K) hK]
  refine S_congr _ fun i _ => ?_
  unfold fb
  by_cases h : i ≤ K
  · rw [if_pos (by omega)]
  · rw [if_neg (by omega)]
    unfold EN
    rw [C_lt K i (by omega), Nat.zero_mul]

section
variable {P D K A : Nat} (hP : P ≤ 24) (hD : D ≤ P) (hA : A < 1000)
include hP hD hA
/-- where enough is found there is something plausible below -/
theorem below (hK : K ≤ D) {i : Nat} (hi : i < P - D + 1) (h : A * C P D < 2000 * AL P D (K + i) (K : Int)) : ∃ j, j ≤ i ∧ plaus P D K A (K + j) = true := by
  obtain ⟨j, h1, h2, h3⟩ := least (p := fun j : Nat => A * C P D < 2000 * AL P D (K + j) (K : Int)) i h
  refine ⟨j, h1, ?_⟩
  have hpos := C_pos P D hD
  have hZ : A * C P D ≤ 999 * C P D := Nat.mul_le_mul_right _ (by omega)
  rw [plaus_24 hP (by omega) hA]
  have h2' : A * C P D < 2000 * AL P D (K + j) (K : Int) := h2
  simp only [Bool.and_eq_true, decide_eq_true_eq]
  refine ⟨h2', ?_⟩
  cases j with
  | zero =>
    rw [Nat.add_zero, AM_bot (by omega)]; omega
  | succ j =>
    have h4 := h3 j (by omega)
    have h5 := AL_shift (P := P) (D := D) (M := K + j) (by omega) K
    have h6 := AM_eq (P := P) (D := D) (M := K + j + 1) (by omega) K
    rw [show K + (j + 1) = K + j + 1 from by omega]
    omega
theorem some_plaus (hK : K ≤ D) : ∃ i, i < P - D + 1 ∧ plaus P D K A (K + i) = true := by
  have hpos := C_pos P D hD
  have hZ : A * C P D ≤ 999 * C P D := Nat.mul_le_mul_right _ (by omega)
  have ht := AL_top hD hK
  rw [show P - D + K = K + (P - D) from by omega] at ht
  obtain ⟨j, h1, h2⟩ := below hP hD hA hK (i := P - D) (by omega) (by rw [ht]; omega)
  exact ⟨j, by omega, h2⟩
/-- where little enough is found there is something plausible above -/
theorem above' (hK : K + 1 ≤ D) {i : Nat} (hi : i < P - D + 1) (h : A * C P D < 2000 * AM P D (K + 1 + i) ((K + 1 : Nat) : Int)) : ∃ j, i ≤ j ∧ j < P - D + 1 ∧ plaus P D ((K + 1 : Nat) : Int) A (K + 1 + j) = true := by
  obtain ⟨t, h1, h2, h3⟩ := least (p := fun t : Nat => t ≤ P - D ∧ A * C P D < 2000 * AM P D (K + 1 + (P - D - t)) ((K + 1 : Nat) : Int)) (P - D - i) ⟨by omega, by rw [show P - D - (P - D - i) = i from by omega]; exact h⟩
  refine ⟨P - D - t, by omega, by omega, ?_⟩
  have hpos := C_pos P D hD
  have hZ : A * C P D ≤ 999 * C P D := Nat.mul_le_mul_right _ (by omega)
  have h2' : A * C P D < 2000 * AM P D (K + 1 + (P - D - t)) ((K + 1 : Nat) : Int) := h2.2
  rw [plaus_24 hP (by omega) hA]
  simp only [Bool.and_eq_true, decide_eq_true_eq]
  refine ⟨?_, h2'⟩
  cases t with
  | zero =>
    have ht := AL_top (K := K + 1) hD hK
    rw [show P - D + (K + 1) = K + 1 + (P - D - 0) from by omega] at ht
    rw [ht]; omega
  | succ t =>
    have h4 : ¬ A * C P D < 2000 * AM P D (K + 1 + (P - D - t)) ((K + 1 : Nat) : Int) := fun e => h3 t (by omega) ⟨by omega, e⟩
    have h5 := AL_shift (P := P) (D := D) (M := K + 1 + (P - D - (t + 1))) (by omega) (K + 1)
    have h6 := AM_eq (P := P) (D := D) (M := K + 1 + (P - D - (t + 1)) + 1) (by omega) (K + 1)
    rw [show K + 1 + (P - D - t) = K + 1 + (P - D - (t + 1)) + 1 from by omega] at h4
    omega
theorem bn_found (hK : K ≤ D) : ∃ i1 i2, i1 ≤ i2 ∧ i2 < P - D + 1 ∧ plaus P D K A (K + i1) = true ∧ plaus P D K A (K + i2) = true ∧ bn P D K A (P - D + 1) = (((K + i1 : Nat) : Int), ((K + i2 : Nat) : Int)) := by
  rcases bn_spec P D K A (P - D + 1) with ⟨_, h⟩ | h
  · obtain ⟨i, h1, h2⟩ := some_plaus hP hD hA hK
    rw [h i h1] at h2; cases h2
  · exact h
end
theorem plaus_mono {P D M A B : Nat} {k : Int} (hP : P ≤ 24) (hM : M ≤ P) (hAB : A ≤ B) (hB : B < 1000) (h : plaus P D k B M = true) : plaus P D k A M = true := by
  rw [plaus_24 hP hM hB] at h
  rw [plaus_24 hP hM (by omega)]
  simp only [Bool.and_eq_true, decide_eq_true_eq] at h ⊢
  have : A * C P D ≤ B * C P D := Nat.mul_le_mul_right _ hAB
  omega
/-- more found in the sample: bounds do not shrink -/
theorem bn_next {P D K A : Nat} (hP : P ≤ 24) (hD : D ≤ P) (hA : A < 1000) (hK : K + 1 ≤ D) :
    (bn P D K A (P - D + 1)).1 ≤ (bn P D (K + 1) A (P - D + 1)).1 ∧ (bn P D K A (P - D + 1)).2 ≤ (bn P D (K + 1) A (P - D + 1)).2 := by
  obtain ⟨i1, i2, h1, h2, h3, h4, h5⟩ := bn_found (K := K) hP hD hA (by omega)
  obtain ⟨j1, j2, g1, g2, g3, g4, g5⟩ := bn_found (K := K + 1) hP hD hA hK
  have hin := (bn_in P D K A (P - D + 1)).1
  have hin' := (bn_in P D (K + 1) A (P - D + 1)).1
  rw [h5] at hin ⊢
  rw [g5] at hin' ⊢
  rw [plaus_24 hP (by omega) hA] at g3 h4
  simp only [Bool.and_eq_true, decide_eq_true_eq] at g3 h4
  constructor
  · have hd := AL_down (P := P) (D := D) (M := K + 1 + j1) K
    by_cases hj : j1 + 1 < P - D + 1
    · obtain ⟨j, k1, k2⟩ := below (K := K) hP hD hA (by omega) (i := j1 + 1) hj (by rw [show K + (j1 + 1) = K + 1 + j1 from by omega]; omega)
      have := hin j (by omega) k2
      simp only at this ⊢
      omega
    · simp only; omega
  · by_cases hi : i2 = 0
    · subst hi
      simp only; omega
    · have hu := AM_up (P := P) (D := D) (M := K + i2) K
      obtain ⟨j, k1, k2, k3⟩ := above' (K := K) hP hD hA hK (i := i2 - 1) (by omega) (by rw [show K + 1 + (i2 - 1) = K + i2 from by omega]; omega)
      have := hin' j k2 k3
      simp only at this ⊢
      omega
theorem min_nat (a b : Nat) : minI (a : Int) (b : Int) = ((min a b : Nat) : Int) := by unfold minI; split <;> omega
theorem max_nat (a b : Nat) : maxI (a : Int) (b : Int) = ((max a b : Nat) : Int) := by unfold maxI; split <;> omega

theorem grows_eq (a0 : Int) (_ : I64 a0) (a1 : Int) (_ : I64 a1) (a2 : Int) (_ : I64 a2) (a3 : Int) (_ : I64 a3) (a4 : Int) (_ : I64 a4) : exchangepointlaw39_IntervalGrows a0 a1 a2 a3 a4 = some true := by
  unfold exchangepointlaw39_IntervalGrows
  obtain ⟨p0, p1⟩ := emod_lt' a0 (m := 24) (by omega)
  refine bind_of (mod_eq a0 24 (by omega) (by omega)) ?_
  generalize a0 % 24 = R at *
  obtain ⟨Q, rfl⟩ : ∃ Q : Nat, R = Q := ⟨R.toNat, by omega⟩
  rw [w64_id (n := 1 + (Q : Int)) (by omega) (by omega), show 1 + (Q : Int) = ((Q + 1 : Nat) : Int) from by omega, w64_id (n := ((Q + 1 : Nat) : Int) + 1) (by omega) (by omega)]
  obtain ⟨s0, s1⟩ := emod_lt' a1 (m := ((Q + 1 : Nat) : Int) + 1) (by omega)
  refine bind_of (mod_eq a1 _ (by omega) (by omega)) ?_
  obtain ⟨D, hD⟩ : ∃ D : Nat, a1 % (((Q + 1 : Nat) : Int) + 1) = D := ⟨(a1 % (((Q + 1 : Nat) : Int) + 1)).toNat, by omega⟩
  rw [hD] at s1 ⊢
  rw [w64_id (n := (D : Int) + 1) (by omega) (by omega)]
  obtain ⟨k0, k1⟩ := emod_lt' a2 (m := (D : Int) + 1) (by omega)
  refine bind_of (mod_eq a2 _ (by omega) (by omega)) ?_
  obtain ⟨K, hK⟩ : ∃ K : Nat, a2 % ((D : Int) + 1) = K := ⟨(a2 % ((D : Int) + 1)).toNat, by omega⟩
  rw [hK] at k1 ⊢
  obtain ⟨u0, u1⟩ := emod_lt' a3 (m := 999) (by omega)
  obtain ⟨v0, v1⟩ := emod_lt' a4 (m := 999) (by omega)
  refine bind_of (mod_eq a3 999 (by omega) (by omega)) ?_
  refine bind_of (mod_eq a4 999 (by omega) (by omega)) ?_
  obtain ⟨A, hA⟩ : ∃ A : Nat, 1 + a3 % 999 = A := ⟨(1 + a3 % 999).toNat, by omega⟩
  obtain ⟨B, hB⟩ : ∃ B : Nat, 1 + a4 % 999 = B := ⟨(1 + a4 % 999).toNat, by omega⟩
  rw [hA, hB, w64_id (n := (A : Int)) (by omega) (by omega), w64_id (n := (B : Int)) (by omega) (by omega), min_nat, max_nat]
  obtain ⟨L, hL⟩ : ∃ L, min A B = L := ⟨_, rfl⟩
  obtain ⟨H, hH⟩ : ∃ H, max A B = H := ⟨_, rfl⟩
  rw [hL, hH]
  have hLH : 1 ≤ L ∧ L ≤ H ∧ H < 1000 := by omega
  have b1 := int_bounds (P := Q + 1) (D := D) (K := K) (by omega) (by omega) (by omega) (α := (L : Int)) (by omega) (by omega)
  have b2 := int_bounds (P := Q + 1) (D := D) (K := K) (by omega) (by omega) (by omega) (α := (H : Int)) (by omega) (by omega)
  refine bind_of b1 ?_
  refine bind_of b2 ?_
  obtain ⟨i1, i2, h1, h2, h3, h4, h5⟩ := bn_found (P := Q + 1) (D := D) (K := K) (A := L) (by omega) (by omega) (by omega) (by omega)
  obtain ⟨j1, j2, g1, g2, g3, g4, g5⟩ := bn_found (P := Q + 1) (D := D) (K := K) (A := H) (by omega) (by omega) (by omega) (by omega)
  have hin := (bn_in (Q + 1) D K L (Q + 1 - D + 1)).1
  have hin1 := hin j1 (by omega) (plaus_mono (by omega) (by omega) hLH.2.1 hLH.2.2 g3)
  have hin2 := hin j2 g2 (plaus_mono (by omega) (by omega) hLH.2.1 hLH.2.2 g4)
  have hnext := fun hK => bn_next (P := Q + 1) (D := D) (K := K) (A := L) (by omega) (by omega) (by omega) hK
  have b3 := fun hK : K + 1 ≤ D => int_bounds (P := Q + 1) (D := D) (K := K + 1) (by omega) (by omega) hK (α := (L : Int)) (by omega) (by omega)
  rw [h5] at hin1 hin2 hnext
  rw [h5, g5]
  have w1 : w64 ((D : Int) - K) = (D : Int) - K := w64_id (by omega) (by omega)
  have w2 : w64 (((Q + 1 : Nat) : Int) - ((D : Int) - K)) = ((Q + 1 : Nat) : Int) - ((D : Int) - K) := w64_id (by omega) (by omega)
  simp only [] at hin1 hin2
  refine ite_of_f (by
    simp only [w1, w2, Bool.or_eq_false_iff, decide_eq_false_iff_not, bne_self_eq_false, true_and]
    refine ⟨⟨⟨⟨?_, ?_⟩, ?_⟩, ?_⟩, ?_⟩ <;> omega) ?_
  show jn _ _ = _
  unfold jn
  have hrest : ((exchangepointmill_Mod a2 (((Q + 1 : Nat) : Int) + 1)).bind fun r14 =>
      (interval_Bounds ((Q + 1 : Nat) : Int) ((Q + 1 : Nat) : Int) r14 (A : Int)).bind fun r15 =>
      (if (((r15.2.2 == (0 : Int)) && (r15.1 == r14)) && (r15.2.1 == r14)) = true then
      (exchangepointlaw39_awake).bind fun r21 => some r21
      else some false)) = some true := by
    obtain ⟨y0, y1⟩ := emod_lt' a2 (m := ((Q + 1 : Nat) : Int) + 1) (by omega)
    refine bind_of (mod_eq a2 _ (by omega) (by omega)) ?_
    obtain ⟨Y, hY⟩ : ∃ Y : Nat, a2 % (((Q + 1 : Nat) : Int) + 1) = Y := ⟨(a2 % (((Q + 1 : Nat) : Int) + 1)).toNat, by omega⟩
    rw [hY]
    refine bind_of (int_bounds (P := Q + 1) (D := Q + 1) (K := Y) (by omega) (by omega) (by omega) (α := (A : Int)) (by omega) (by omega)) ?_
    obtain ⟨m1, m2, f1, f2, _, _, f5⟩ := bn_found (P := Q + 1) (D := Q + 1) (K := Y) (A := A) (by omega) (by omega) (by omega) (by omega)
    rw [f5, show m1 = 0 from by omega, show m2 = 0 from by omega]
    refine ite_of_t (by simp) ?_
    exact bind_of awake_eq rfl
  by_cases hc : K < D
  · refine ite_of_t (by simp; omega) ?_
    rw [w64_id (n := (K : Int) + 1) (by omega) (by omega), show (K : Int) + 1 = ((K + 1 : Nat) : Int) from by omega]
    refine bind_of (b3 hc) ?_
    have hn := hnext hc
    refine ite_of_f (by
      simp only [Bool.or_eq_false_iff, decide_eq_false_iff_not, bne_self_eq_false, true_and]
      exact ⟨by omega, by omega⟩) ?_
    exact hrest
  · refine ite_of_f (by simp; omega) ?_
    exact hrest
end Go.Proofs.Ytjhjijcffgmpkaa

/- Chapter 39, third part: what the comparison means for small numbers; what is covered. -/
import Derived.Test.YtjhjijcffgmpkaaPureB
namespace Go.Proofs.Ytjhjijcffgmpkaa
open Go Go.Vc

theorem u64_id {n : Int} (h : 0 ≤ n) (h' : n < 18446744073709551616) : IntKind.u64.wrap n = n := by
  rw [IntKind.wrap_u64]; exact Int.emod_eq_of_lt h h'
theorem mask_id {n : Int} (h : 0 ≤ n) (h' : n < 4294967296) : bitI .and .u64 n 4294967295 = n := by
  obtain ⟨m, rfl⟩ : ∃ m : Nat, n = m := ⟨n.toNat, by omega⟩
  show IntKind.u64.wrap ((BitVec.ofInt 64 (m : Int) &&& BitVec.ofInt 64 4294967295).toNat : Int) = m
  have e : (BitVec.ofInt 64 (m : Int) &&& BitVec.ofInt 64 4294967295).toNat = m := by
    rw [BitVec.toNat_and, BitVec.ofInt_natCast, BitVec.toNat_ofNat, show (BitVec.ofInt 64 4294967295).toNat = 2 ^ 32 - 1 from by rfl, Nat.and_two_pow_sub_one_eq_mod, Nat.mod_eq_of_lt (show m < 2 ^ 64 from by omega), Nat.mod_eq_of_lt (by omega)]
  rw [e, u64_id (by omega) (by omega)]
theorem shr_zero {n : Int} (h : 0 ≤ n) (h' : n < 4294967296) : shrI .u64 n 32 = 0 := by
  show n.fdiv (2 ^ (min (32 : Int).toNat IntKind.u64.bits)) = 0
  rw [show (min (32 : Int).toNat IntKind.u64.bits) = 32 from by rfl, Int.fdiv_eq_ediv_of_nonneg _ (by decide)]
  exact Int.ediv_eq_zero_of_lt h h'
theorem shr_small {n : Int} (h : 0 ≤ n) (h' : n < 4611686018427387904) : 0 ≤ shrI .u64 n 32 ∧ shrI .u64 n 32 < 4294967296 := by
  have e : shrI .u64 n 32 = n / 4294967296 := by
    show n.fdiv (2 ^ (min (32 : Int).toNat IntKind.u64.bits)) = _
    rw [show (min (32 : Int).toNat IntKind.u64.bits) = 32 from by rfl, Int.fdiv_eq_ediv_of_nonneg _ (by decide)]
    rfl
  rw [e]
  omega

theorem mul64_small {a b : Int} (ha : 0 ≤ a) (ha' : a < 2147483648) (hb : 0 ≤ b) (hb' : b < 2147483648) : bits_Mul64 a b = some (0, a * b) := by
  have hab : 0 ≤ a * b := Int.mul_nonneg ha hb
  have hab' : a * b < 4611686018427387904 := Int.lt_of_le_of_lt (Int.mul_le_mul (show a ≤ 2147483647 from by omega) (show b ≤ 2147483647 from by omega) hb (by omega)) (by decide)
  obtain ⟨t0, t1⟩ := shr_small hab hab'
  unfold bits_Mul64
  rw [shr_zero ha (by omega), shr_zero hb (by omega), mask_id ha (by omega), mask_id hb (by omega), u64_id hab (by omega)]
  have z0 : IntKind.u64.wrap 0 = 0 := u64_id (by omega) (by omega)
  simp only [Int.zero_mul, Int.mul_zero, Int.add_zero, Int.zero_add, z0]
  rw [u64_id t0 (by omega), shr_zero t0 t1, mask_id t0 t1, u64_id t0 (by omega), shr_zero t0 t1]
  simp only [Int.add_zero, z0]

theorem gB_small {a b c d : Int} (ha : 0 ≤ a) (ha' : a < 2147483648) (hb : 0 ≤ b) (hb' : b < 2147483648) (hc : 0 ≤ c) (hc' : c < 2147483648) (hd : 0 ≤ d) (hd' : d < 2147483648) : gB a b c d = decide (c * d < a * b) := by
  have h : interval_greater a b c d = some (decide (c * d < a * b)) := by
    unfold interval_greater
    rw [u64_id ha (by omega), u64_id hb (by omega), u64_id hc (by omega), u64_id hd (by omega)]
    refine bind_of (mul64_small ha ha' hb hb') ?_
    refine bind_of (mul64_small hc hc' hd hd') ?_
    unfold jn
    refine ite_of_f (by simp) ?_
    simp
  rw [greater_eq] at h
  exact Option.some.inj h

/-- what is plausible lies within the bounds -/
theorem bn_in (P D K : Nat) (α : Int) : ∀ n : Nat, (∀ i, i < n → plaus P D K α (K + i) = true → (bn P D K α n).1 ≤ ((K + i : Nat) : Int) ∧ ((K + i : Nat) : Int) ≤ (bn P D K α n).2) ∧ ((bn P D K α n).1 < 0 → ∀ i, i < n → plaus P D K α (K + i) = false) ∧ (bn P D K α n).1 ≤ ((K + n : Nat) : Int)
  | 0 => ⟨fun i h => by omega, fun _ i h => by omega, by show (-1 : Int) ≤ _; omega⟩
  | n + 1 => by
    obtain ⟨h1, h2, h3⟩ := bn_in P D K α n
    have hs : bn P D K α (n + 1) = bstep P D K α (bn P D K α n) (K + n) := rfl
    rw [hs]
    generalize bn P D K α n = b at *
    unfold bstep
    cases hp : plaus P D K α (K + n) with
    | false =>
      simp only [Bool.false_eq_true, if_false]
      refine ⟨fun i hi hpi => ?_, fun hb i hi => ?_, by omega⟩
      · by_cases he : i = n
        · subst he; rw [hp] at hpi; cases hpi
        · exact h1 i (by omega) hpi
      · by_cases he : i = n
        · subst he; exact hp
        · exact h2 hb i (by omega)
    | true =>
      simp only [if_true]
      by_cases hb : b.1 < 0
      · rw [if_pos hb]
        refine ⟨fun i hi hpi => ?_, fun hlt => by omega, by omega⟩
        by_cases he : i = n
        · subst he; exact ⟨Int.le_refl _, Int.le_refl _⟩
        · have := h2 hb i (by omega); rw [this] at hpi; cases hpi
      · rw [if_neg hb]
        refine ⟨fun i hi hpi => ?_, fun hlt => absurd hlt hb, by omega⟩
        by_cases he : i = n
        · subst he; exact ⟨h3, Int.le_refl _⟩
        · have := h1 i (by omega) hpi
          exact ⟨this.1, by omega⟩

theorem least {p : Nat → Prop} : ∀ n, p n → ∃ j, j ≤ n ∧ p j ∧ ∀ i, i < j → ¬ p i := by
  intro n
  induction n using Nat.strongRecOn with
  | ind n ih =>
    intro h
    by_cases h' : ∃ i, i < n ∧ p i
    · obtain ⟨i, hi, hp⟩ := h'
      obtain ⟨j, h1, h2, h3⟩ := ih i hi hp
      exact ⟨j, by omega, h2, h3⟩
    · exact ⟨n, Nat.le_refl _, h, fun i hi hp => h' ⟨i, hi, hp⟩⟩

section
variable (P D M : Nat) (Z : Nat)
def ua (j : Nat) : Nat := if 2000 * AL P D M j ≤ Z then EN P D M j else 0
def ub (j : Nat) : Nat := if 2000 * AM P D M j ≤ Z then EN P D M j else 0
theorem ua_sum : 2000 * S (ua P D M Z) (D + 1) ≤ Z := by
  by_cases h : ∃ j, j ≤ D ∧ 2000 * AL P D M j ≤ Z
  · obtain ⟨j, _, hz⟩ := h
    obtain ⟨j0, _, h1, h2⟩ := least (p := fun j : Nat => 2000 * AL P D M j ≤ Z) j hz
    have : S (ua P D M Z) (D + 1) ≤ AL P D M j0 := by
      unfold AL
      refine S_le _ fun i _ => ?_
      unfold ua fa
      by_cases hi : i < j0
      · rw [if_neg (h2 i hi)]; exact Nat.zero_le _
      · rw [if_pos (show ((j0 : Nat) : Int) ≤ (i : Int) from by omega)]; split <;> omega
    have h1' : 2000 * AL P D M j0 ≤ Z := h1
    omega
  · rw [S_zero (f := ua P D M Z) (D + 1) fun i hi => if_neg fun e => h ⟨i, by omega, e⟩]; omega
theorem ub_sum : 2000 * S (ub P D M Z) (D + 1) ≤ Z := by
  by_cases h : ∃ j, j ≤ D ∧ 2000 * AM P D M j ≤ Z
  · obtain ⟨j, hj, hz⟩ := h
    obtain ⟨i0, _, h1, h2⟩ := least (p := fun i : Nat => i ≤ D ∧ 2000 * AM P D M ((D - i : Nat) : Int) ≤ Z) (D - j) ⟨by omega, by rw [show D - (D - j) = j from by omega]; exact hz⟩
    have : S (ub P D M Z) (D + 1) ≤ AM P D M ((D - i0 : Nat) : Int) := by
      unfold AM
      refine S_le _ fun i hi => ?_
      unfold ub fb
      by_cases hlt : D - i0 < i
      · have := h2 (D - i) (by omega)
        rw [if_neg (fun e => this ⟨by omega, by rw [show D - (D - i) = i from by omega]; exact e⟩)]; exact Nat.zero_le _
      · rw [if_pos (show ((i : Nat) : Int) ≤ ((D - i0 : Nat) : Int) from by omega)]; split <;> omega
    have h1' : 2000 * AM P D M ((D - i0 : Nat) : Int) ≤ Z := h1.2
    omega
  · rw [S_zero (f := ub P D M Z) (D + 1) fun i hi => if_neg fun e => h ⟨i, by omega, e⟩]; omega
end

theorem AL_le {P D M : Nat} (hM : M ≤ P) (k : Int) : AL P D M k ≤ C P D := by
  rw [← EN_sum hM]
  exact S_le _ fun i _ => by unfold fa; split <;> omega
theorem AM_le {P D M : Nat} (hM : M ≤ P) (k : Int) : AM P D M k ≤ C P D := by
  rw [← EN_sum hM]
  exact S_le _ fun i _ => by unfold fb; split <;> omega

theorem plaus_small {P D : Nat} {k : Int} {A M : Nat} (hP : P ≤ 20) (hM : M ≤ P) (hA : A < 1000) : plaus P D k A M = (decide (A * C P D < 2000 * AL P D M k) && decide (A * C P D < 2000 * AM P D M k)) := by
  have hC : C P D ≤ 1048576 := Nat.le_trans (C_pow P D) (Nat.pow_le_pow_right (n := 2) (by omega) hP)
  have h1 := AL_le (D := D) hM k
  have h2 := AM_le (D := D) hM k
  unfold plaus
  rw [gB_small (by omega) (by omega) (by omega) (by omega) (by omega) (by omega) (by omega) (by omega), gB_small (by omega) (by omega) (by omega) (by omega) (by omega) (by omega) (by omega) (by omega)]
  congr 1
  · rw [decide_eq_decide]; omega
  · rw [decide_eq_decide]; omega

theorem covered {P D M A : Nat} (hP : P ≤ 20) (hD : D ≤ P) (hM : M ≤ P) (hA : A < 1000) :
    S (cv P D M A) (D + 1) ≤ C P D ∧ 1000 * C P D ≤ 1000 * S (cv P D M A) (D + 1) + A * C P D := by
  have hsum := EN_sum (D := D) hM
  have hle : S (cv P D M A) (D + 1) ≤ S (EN P D M) (D + 1) := S_le _ fun i _ => by unfold cv; split <;> omega
  refine ⟨by omega, ?_⟩
  have hall : S (EN P D M) (D + 1) ≤ S (fun j => cv P D M A j + (ua P D M (A * C P D) j + ub P D M (A * C P D) j)) (D + 1) := by
    refine S_le _ fun j hj => ?_
    by_cases hpos : 0 < EN P D M j
    · obtain ⟨q1, q2⟩ := EN_pos.1 hpos
      by_cases hp : plaus P D j A M = true
      · have hin := (bn_in P D j A (P - D + 1)).1 (M - j) (by omega)
        rw [show j + (M - j) = M from by omega] at hin
        have := hin hp
        have hc : cv P D M A j = EN P D M j := if_pos ⟨hpos, this.1, this.2⟩
        omega
      · rw [plaus_small hP hM hA] at hp
        simp only [Bool.and_eq_true, decide_eq_true_eq] at hp
        by_cases ha : A * C P D < 2000 * AL P D M j
        · have hb : ¬ A * C P D < 2000 * AM P D M j := fun e => hp ⟨ha, e⟩
          have : ub P D M (A * C P D) j = EN P D M j := if_pos (by omega)
          omega
        · have : ua P D M (A * C P D) j = EN P D M j := if_pos (by omega)
          omega
    · omega
  rw [S_add, S_add] at hall
  have h1 := ua_sum P D M (A * C P D)
  have h2 := ub_sum P D M (A * C P D)
  rw [hsum] at hall
  generalize A * C P D = Y at *
  omega

theorem covers_eq (a0 : Int) (_ : I64 a0) (a1 : Int) (_ : I64 a1) (a2 : Int) (_ : I64 a2) (a3 : Int) (_ : I64 a3) : exchangepointlaw39_IntervalCovers a0 a1 a2 a3 = some true := by
  unfold exchangepointlaw39_IntervalCovers
  obtain ⟨p0, p1⟩ := emod_lt' a0 (m := 14) (by omega)
  refine bind_of (mod_eq a0 14 (by omega) (by omega)) ?_
  generalize a0 % 14 = R at *
  obtain ⟨Q, rfl⟩ : ∃ Q : Nat, R = Q := ⟨R.toNat, by omega⟩
  rw [w64_id (n := 1 + (Q : Int)) (by omega) (by omega), show 1 + (Q : Int) = ((Q + 1 : Nat) : Int) from by omega, w64_id (n := ((Q + 1 : Nat) : Int) + 1) (by omega) (by omega)]
  obtain ⟨s0, s1⟩ := emod_lt' a1 (m := ((Q + 1 : Nat) : Int) + 1) (by omega)
  obtain ⟨t0, t1⟩ := emod_lt' a2 (m := ((Q + 1 : Nat) : Int) + 1) (by omega)
  obtain ⟨u0, u1⟩ := emod_lt' a3 (m := 999) (by omega)
  refine bind_of (mod_eq a1 _ (by omega) (by omega)) ?_
  refine bind_of (mod_eq a3 999 (by omega) (by omega)) ?_
  refine bind_of (mod_eq a2 _ (by omega) (by omega)) ?_
  obtain ⟨D, hD⟩ : ∃ D : Nat, a1 % (((Q + 1 : Nat) : Int) + 1) = D := ⟨(a1 % (((Q + 1 : Nat) : Int) + 1)).toNat, by omega⟩
  obtain ⟨M, hM⟩ : ∃ M : Nat, a2 % (((Q + 1 : Nat) : Int) + 1) = M := ⟨(a2 % (((Q + 1 : Nat) : Int) + 1)).toNat, by omega⟩
  obtain ⟨A, hA⟩ : ∃ A : Nat, 1 + a3 % 999 = A := ⟨(1 + a3 % 999).toNat, by omega⟩
  rw [hD, hM, hA, w64_id (n := (A : Int)) (by omega) (by omega)]
  refine bind_of (int_cover (P := Q + 1) (D := D) (M := M) (by omega) (by omega) (by omega) (by omega) (by omega)) ?_
  obtain ⟨c1, c2⟩ := covered (P := Q + 1) (D := D) (M := M) (A := A) (by omega) (by omega) (by omega) (by omega)
  have hC : C (Q + 1) D ≤ 1048576 := Nat.le_trans (C_pow _ D) (Nat.pow_le_pow_right (n := 2) (by omega) (show Q + 1 ≤ 20 from by omega))
  have hpos := C_pos (Q + 1) D (by omega)
  have hAC : A * C (Q + 1) D ≤ 1000 * 1048576 := Nat.mul_le_mul (by omega) hC
  have hmul : ((1000 : Int) - A) * (C (Q + 1) D : Int) = 1000 * (C (Q + 1) D : Int) - ((A * C (Q + 1) D : Nat) : Int) := by rw [Int.sub_mul, Int.natCast_mul]
  generalize A * C (Q + 1) D = Y at *
  generalize C (Q + 1) D = Z at *
  generalize S (cv (Q + 1) D M A) (D + 1) = X at *
  show jn _ _ = _
  unfold jn
  have w1 : w64 ((1000 : Int) - A) = 1000 - A := w64_id (by omega) (by omega)
  have w2 : w64 (((1000 : Int) - A) * (Z : Int)) = 1000 * (Z : Int) - Y := by rw [hmul, w64_id (by omega) (by omega)]
  have w3 : w64 ((1000 : Int) * (X : Int)) = 1000 * (X : Int) := w64_id (by omega) (by omega)
  refine ite_of_t (by simp only [w1, w2, w3, Bool.and_eq_true, decide_eq_true_eq, beq_iff_eq]; exact ⟨⟨⟨trivial, by omega⟩, by omega⟩, by omega⟩) ?_
  exact bind_of awake_eq rfl
end Go.Proofs.Ytjhjijcffgmpkaa

/- Chapter 38 in plain Lean: what a cell stands for; rules. -/
import Derived.Test.YtpdfmjkfplgkfaaPureC
namespace Go.Proofs.Ytpdfmjkfplgkfaa
open Go Go.Vc
abbrev I64 (x : Int) : Prop := IntKind.i64.min ≤ x ∧ x ≤ IntKind.i64.max

theorem mod_eq (a m : Int) (hm : 0 < m) (hb : m ≤ 4611686018427387904) : exchangepointmill_Mod a m = some (a % m) := by
  obtain ⟨h0, h1⟩ := emod_lt' a hm
  unfold exchangepointmill_Mod
  refine chk_of (by simp; omega) ?_
  unfold jn
  rcases tmod_emod a hm with h | ⟨h, hn⟩
  · rw [h]
    exact ite_of_f (by simp; omega) rfl
  · rw [h]
    refine ite_of_t (by simp; omega) ?_
    rw [show a % m - m + m = a % m from by omega, w64_id (by omega) (by omega)]

/-- arguments that are permitted -/
structure EstOk (c : api_Cell) (n p : Int) : Prop where
  n1 : 1 ≤ n
  n2 : n ≤ 1048576
  p1 : n ≤ p
  p2 : p ≤ 1099511627776
  s1 : 0 ≤ c.fSamples
  s2 : c.fSamples ≤ n
  b1 : 0 ≤ c.fBytes
  b2 : c.fBytes ≤ 1073741824
open Classical in
noncomputable def EstF (c : api_Cell) (n p : Int) : Int × Int :=
  if EstOk c n p then
    (if 1125899906842624 < c.fBytes * p / n then (0, 3) else (c.fBytes * p / n, 0))
  else (0, 1)
theorem est_tot (c : api_Cell) (n p : Int) : matrix_Estimate c n p = some (EstF c n p) := by
  unfold matrix_Estimate EstF
  by_cases hk : EstOk c n p
  · rw [if_pos hk]
    obtain ⟨n1, n2, p1, p2, s1, s2, b1, b2⟩ := hk
    refine ite_of_f (by simp; omega) ?_
    obtain ⟨B, hB⟩ : ∃ B : Nat, c.fBytes = B := ⟨c.fBytes.toNat, by omega⟩
    obtain ⟨p, rfl⟩ : ∃ q : Nat, p = q := ⟨p.toNat, by omega⟩
    obtain ⟨n, rfl⟩ : ∃ q : Nat, n = q := ⟨n.toNat, by omega⟩
    rw [hB] at b1 b2 ⊢
    have hBp : B * p ≤ 1073741824 * 1099511627776 := Nat.mul_le_mul (by omega) (by omega)
    rw [u64_nat (by omega), u64_nat (by omega), u64_nat (by omega)]
    refine bind_of (mul64_eq (by omega) (by omega)) ?_
    have hd : ((B : Int) * (p : Int)) / (n : Int) = ((B * p / n : Nat) : Int) := by rw [← Int.natCast_mul]; rfl
    rw [hd]
    obtain ⟨hi, hhi⟩ : ∃ hi, hi = B * p / 18446744073709551616 := ⟨_, rfl⟩
    obtain ⟨lo, hlo⟩ : ∃ lo, lo = B * p % 18446744073709551616 := ⟨_, rfl⟩
    have hsplit : hi * 18446744073709551616 + lo = B * p := by rw [hhi, hlo]; exact Nat.div_add_mod' _ _
    have hlolt : lo < 18446744073709551616 := by rw [hlo]; exact Nat.mod_lt _ (by decide)
    rw [← hhi, ← hlo]
    clear hhi hlo
    by_cases hc : n ≤ hi
    · have hbig : 1125899906842624 < B * p / n := by
        have h1 : 18446744073709551616 ≤ B * p / n := by
          rw [Nat.le_div_iff_mul_le (by omega), ← hsplit]
          have := Nat.mul_le_mul_left 18446744073709551616 hc
          omega
        omega
      refine ite_of_t (by simp; omega) ?_
      rw [if_pos (by omega)]
    · refine ite_of_f (by simp; omega) ?_
      obtain ⟨r, hr, hr1⟩ := div64_eq (hi := hi) (lo := lo) (y := n) (by omega) (by omega) (by omega) hlolt
      refine bind_of hr ?_
      rw [hr1, hsplit]
      by_cases hbig : 1125899906842624 < B * p / n
      · refine ite_of_t (by simp; omega) ?_
        rw [if_pos (by omega)]
      · refine ite_of_f (by simp; omega) ?_
        have hnn : (0 : Int) ≤ ((B * p / n : Nat) : Int) := Int.natCast_nonneg _
        rw [if_neg (by omega), w64_id (by omega) (by omega)]
  · rw [if_neg hk]
    refine ite_of_t ?_ rfl
    cases hb : (((((((decide (n < (1 : Int))) || (decide ((1048576 : Int) < n))) || (decide (p < n))) || (decide ((1099511627776 : Int) < p))) || (decide (c.fSamples < (0 : Int)))) || (decide (n < c.fSamples))) || (decide (c.fBytes < (0 : Int)))) || (decide ((1073741824 : Int) < c.fBytes)) with
    | true => rfl
    | false =>
      simp only [Bool.or_eq_false_iff, decide_eq_false_iff_not] at hb
      exact (hk ⟨by omega, by omega, by omega, by omega, by omega, by omega, by omega, by omega⟩).elim
theorem ref_est (c : api_Cell) (n p : Int) : exchangepointref38_Estimate c n p = some (EstF c n p) := (est_eq c n p).trans (est_tot c n p)
end Go.Proofs.Ytpdfmjkfplgkfaa

/- Chapter 38 in plain Lean: quotients of 128 bits by small numbers; what a cell stands for is the document's. -/
import Derived.Test.YtpdfmjkfplgkfaaPure
namespace Go.Proofs.Ytpdfmjkfplgkfaa
open Go Go.Vc

theorem div_core {U w yn B : Nat} (hB : 0 < B) (hyn : 0 < yn) (hU : U < yn * B) (hw : w < B * B) :
    (U * (B * B) + w) / (yn * B) = U / yn * B + (U % yn * B + w / B) / yn ∧ U / yn < B ∧ (U % yn * B + w / B) / yn < B := by
  have d1 := Nat.div_add_mod' U yn
  have m1 := Nat.mod_lt U hyn
  have q1lt : U / yn < B := by
    rw [Nat.div_lt_iff_lt_mul hyn, Nat.mul_comm]; exact hU
  have hV : w / B < B := by rw [Nat.div_lt_iff_lt_mul hB]; exact hw
  have dw := Nat.div_add_mod' w B
  have mw := Nat.mod_lt w hB
  generalize w / B = V at *
  generalize w % B = R at *
  generalize U / yn = q1 at *
  generalize U % yn = rh at *
  have d2 := Nat.div_add_mod' (rh * B + V) yn
  have m2 := Nat.mod_lt (rh * B + V) hyn
  have q0lt : (rh * B + V) / yn < B := by
    rw [Nat.div_lt_iff_lt_mul hyn]
    have h1 : (rh + 1) * B ≤ yn * B := Nat.mul_le_mul_right _ m1
    rw [Nat.add_mul, Nat.one_mul] at h1
    rw [Nat.mul_comm B yn]
    omega
  refine ⟨?_, q1lt, q0lt⟩
  generalize (rh * B + V) / yn = q0 at *
  generalize (rh * B + V) % yn = r2 at *
  have e1 : q1 * B * (yn * B) = q1 * yn * (B * B) := Nat.mul_mul_mul_comm ..
  have e2 : q0 * (yn * B) = q0 * yn * B := (Nat.mul_assoc ..).symm
  have e3 : (q0 * yn + r2) * B = (rh * B + V) * B := by rw [d2]
  rw [Nat.add_mul, Nat.add_mul, Nat.mul_assoc rh] at e3
  have hs : U * (B * B) + w = (yn * B) * (q1 * B + q0) + (r2 * B + R) := by
    rw [← d1, ← dw, Nat.add_mul, Nat.mul_comm (yn * B), Nat.add_mul, e1, e2]
    omega
  have hlt : r2 * B + R < yn * B := by
    have h1 : (r2 + 1) * B ≤ yn * B := Nat.mul_le_mul_right _ m2
    rw [Nat.add_mul, Nat.one_mul] at h1
    omega
  rw [hs, Nat.mul_add_div (Nat.mul_pos hyn hB), Nat.div_eq_of_lt hlt, Nat.add_zero]
/-- the long division by halves of 32 bits, of a divisor whose lower half is nothing -/
theorem div_split {hi lo y s : Nat} (h0 : 0 < y) (hs : 32 ≤ s) (hs' : s ≤ 63) (hY : y * 2 ^ s < 18446744073709551616) (hhi : hi < y) (hlo : lo < 18446744073709551616) :
    ∃ yn1 U un10 q1 rh q0 r2 : Nat, y * 2 ^ s = yn1 * 4294967296 ∧ 0 < yn1 ∧ U = hi * 2 ^ s + lo / 2 ^ (64 - s) ∧ U < y * 2 ^ s ∧ un10 = lo * 2 ^ s % 18446744073709551616 ∧ q1 = U / yn1 ∧ q1 < 4294967296 ∧ rh = U % yn1 ∧
      q0 = (rh * 4294967296 + un10 / 4294967296) / yn1 ∧ q0 < 4294967296 ∧ r2 = (rh * 4294967296 + un10 / 4294967296) % yn1 ∧ (hi * 18446744073709551616 + lo) / y = q1 * 4294967296 + q0 ∧ U = q1 * yn1 + rh ∧ rh < yn1 ∧ rh * 4294967296 + un10 / 4294967296 = q0 * yn1 + r2 ∧ r2 < yn1 := by
  obtain ⟨e, rfl⟩ : ∃ e, s = e + 32 := ⟨s - 32, by omega⟩
  have hp : 0 < 2 ^ e := Nat.pow_pos (by decide)
  have hY1 : y * 2 ^ (e + 32) = (y * 2 ^ e) * 4294967296 := by rw [Nat.pow_add, ← Nat.mul_assoc]
  have hyn : 0 < y * 2 ^ e := Nat.mul_pos h0 hp
  have h64 : 2 ^ (e + 32) * 2 ^ (64 - (e + 32)) = 18446744073709551616 := by rw [← Nat.pow_add, show e + 32 + (64 - (e + 32)) = 64 from by omega]
  have hL : lo / 2 ^ (64 - (e + 32)) < 2 ^ (e + 32) := by
    rw [Nat.div_lt_iff_lt_mul (Nat.pow_pos (by decide)), h64]; exact hlo
  have hU : hi * 2 ^ (e + 32) + lo / 2 ^ (64 - (e + 32)) < y * 2 ^ (e + 32) := by
    have : (hi + 1) * 2 ^ (e + 32) ≤ y * 2 ^ (e + 32) := Nat.mul_le_mul_right _ hhi
    rw [Nat.add_mul, Nat.one_mul] at this
    omega
  -- lo's two parts
  have hlo2 : lo * 2 ^ (e + 32) = lo / 2 ^ (64 - (e + 32)) * 18446744073709551616 + lo * 2 ^ (e + 32) % 18446744073709551616 := by
    have h1 : lo * 2 ^ (e + 32) / 18446744073709551616 = lo / 2 ^ (64 - (e + 32)) := by
      rw [← h64, Nat.mul_comm lo, Nat.mul_div_mul_left _ _ (Nat.pow_pos (by decide))]
    have := Nat.div_add_mod' (lo * 2 ^ (e + 32)) 18446744073709551616
    rw [h1] at this
    exact this.symm
  have hN : (hi * 18446744073709551616 + lo) / y = ((hi * 2 ^ (e + 32) + lo / 2 ^ (64 - (e + 32))) * 18446744073709551616 + lo * 2 ^ (e + 32) % 18446744073709551616) / (y * 2 ^ (e + 32)) := by
    have key : ∀ (K P L R lo : Nat), lo * P = L * K + R → (hi * K + lo) * P = (hi * P + L) * K + R := by
      intro K P L R lo h
      rw [Nat.add_mul, h, Nat.add_mul, Nat.mul_right_comm, Nat.add_assoc]
    rw [← Nat.mul_div_mul_right (hi * 18446744073709551616 + lo) y (Nat.pow_pos (n := e + 32) (show 0 < 2 by decide)), key _ _ _ _ _ hlo2]
  rw [hN]
  have hm : lo * 2 ^ (e + 32) % 18446744073709551616 < 18446744073709551616 := Nat.mod_lt _ (by decide)
  generalize lo * 2 ^ (e + 32) % 18446744073709551616 = un10 at *
  generalize hi * 2 ^ (e + 32) + lo / 2 ^ (64 - (e + 32)) = U at *
  rw [hY1] at hU hY ⊢
  generalize y * 2 ^ e = yn1 at *
  obtain ⟨c1, c2, c3⟩ := div_core (U := U) (w := un10) (yn := yn1) (B := 4294967296) (by decide) hyn hU hm
  exact ⟨yn1, U, un10, _, _, _, _, rfl, hyn, rfl, hU, rfl, rfl, c2, rfl, rfl, c3, rfl, c1, (Nat.div_add_mod' U yn1).symm, Nat.mod_lt U hyn, (Nat.div_add_mod' _ yn1).symm, Nat.mod_lt _ hyn⟩
end Go.Proofs.Ytpdfmjkfplgkfaa

/- Chapter 38 in plain Lean: words of 64 bits, products and quotients of 128 bits; what a cell stands for. -/
import Derived.Test.YtpdfmjkfplgkfaaFns
import Derived.Test.YtpdfmjkfplgkfaaVcO
import Derived.Test.YtpdfmjkfplgkfaaVcQ
import Derived.Lib.Mul64
import Derived.Lib.EndianBits
namespace Go.Proofs.Ytpdfmjkfplgkfaa
open Go Go.Vc

theorem u64_nat {n : Nat} (h : n < 18446744073709551616) : IntKind.u64.wrap (n : Int) = n := by
  rw [IntKind.wrap_u64]; omega
theorem u64_wrapN (n : Nat) : IntKind.u64.wrap (n : Int) = ((n % 18446744073709551616 : Nat) : Int) := by
  rw [IntKind.wrap_u64]; omega
theorem and_mask {n : Nat} (h : n < 18446744073709551616) : bitI .and .u64 (n : Int) 4294967295 = ((n % 4294967296 : Nat) : Int) := by
  show IntKind.u64.wrap ((BitVec.ofInt 64 (n : Int) &&& BitVec.ofInt 64 4294967295).toNat : Int) = _
  have e : (BitVec.ofInt 64 (n : Int) &&& BitVec.ofInt 64 4294967295).toNat = n % 4294967296 := by
    rw [BitVec.toNat_and, BitVec.ofInt_natCast, BitVec.toNat_ofNat, show (BitVec.ofInt 64 4294967295).toNat = 2 ^ 32 - 1 from by rfl, Nat.and_two_pow_sub_one_eq_mod, Nat.mod_eq_of_lt (show n < 2 ^ 64 from h)]
  rw [e, u64_nat (by omega)]
theorem or_nat {a b : Nat} (ha : a < 18446744073709551616) (hb : b < 18446744073709551616) : bitI .or .u64 (a : Int) (b : Int) = ((a ||| b : Nat) : Int) := by
  show IntKind.u64.wrap ((BitVec.ofInt 64 (a : Int) ||| BitVec.ofInt 64 (b : Int)).toNat : Int) = _
  have e : (BitVec.ofInt 64 (a : Int) ||| BitVec.ofInt 64 (b : Int)).toNat = a ||| b := by
    rw [BitVec.toNat_or, BitVec.ofInt_natCast, BitVec.toNat_ofNat, BitVec.ofInt_natCast, BitVec.toNat_ofNat, Nat.mod_eq_of_lt (show a < 2 ^ 64 from ha), Nat.mod_eq_of_lt (show b < 2 ^ 64 from hb)]
  rw [e, u64_nat (Nat.or_lt_two_pow (n := 64) ha hb)]
theorem shr_nat (n k : Nat) (hk : k ≤ 64) : shrI .u64 (n : Int) (k : Int) = ((n / 2 ^ k : Nat) : Int) := by
  show (n : Int).fdiv (2 ^ (min (k : Int).toNat IntKind.u64.bits)) = _
  rw [show (min (k : Int).toNat IntKind.u64.bits) = k from by show min k 64 = k; omega, Int.fdiv_eq_ediv_of_nonneg _ (Int.le_of_lt (Int.pow_pos (by decide)))]
  have : ((2 : Int) ^ k) = ((2 ^ k : Nat) : Int) := by rw [Int.natCast_pow]; rfl
  rw [this]
  rfl
theorem shl_nat (n k : Nat) (hk : k ≤ 64) : shlI .u64 (n : Int) (k : Int) = ((n * 2 ^ k % 18446744073709551616 : Nat) : Int) := by
  show IntKind.u64.wrap ((n : Int) * 2 ^ (min (k : Int).toNat IntKind.u64.bits)) = _
  rw [show (min (k : Int).toNat IntKind.u64.bits) = k from by show min k 64 = k; omega]
  have : (n : Int) * (2 : Int) ^ k = ((n * 2 ^ k : Nat) : Int) := by rw [Int.natCast_mul, Int.natCast_pow]; rfl
  rw [this, u64_wrapN]
theorem shr32 (n : Nat) : shrI .u64 (n : Int) 32 = ((n / 4294967296 : Nat) : Int) := shr_nat n 32 (by omega)

theorem mul64_eq {x y : Nat} (hx : x < 18446744073709551616) (hy : y < 18446744073709551616) : bits_Mul64 (x : Int) (y : Int) = some (((x * y / 18446744073709551616 : Nat) : Int), ((x * y % 18446744073709551616 : Nat) : Int)) := by
  obtain ⟨h1, h2, h3, h4⟩ := Lib.mul64_hi x y hx hy
  have hp : ((x : Int) * (y : Int)) = ((x * y : Nat) : Int) := by rw [Int.natCast_mul]
  unfold bits_Mul64
  simp only [shr32, and_mask hx, and_mask hy, hp, u64_wrapN, ← Int.natCast_mul, ← Int.natCast_add, Nat.mod_eq_of_lt h1, Nat.mod_eq_of_lt h2]
  have hh1 : x / 4294967296 * (y / 4294967296) < 18446744073709551616 := by
    have := Lib.half_mul_le (a := x / 4294967296) (b := y / 4294967296) (by omega) (by omega); omega
  have hh2 : x / 4294967296 * (y % 4294967296) < 18446744073709551616 := by
    have := Lib.half_mul_le (a := x / 4294967296) (b := y % 4294967296) (by omega) (by omega); omega
  have hh3 : x % 4294967296 * (y / 4294967296) < 18446744073709551616 := by
    have := Lib.half_mul_le (a := x % 4294967296) (b := y / 4294967296) (by omega) (by omega); omega
  have hm : x * y / 18446744073709551616 < 18446744073709551616 := by
    rw [Nat.div_lt_iff_lt_mul (by decide)]
    exact Nat.mul_lt_mul_of_lt_of_lt hx hy
  simp only [Nat.mod_eq_of_lt hh1, Nat.mod_eq_of_lt hh2, Nat.mod_eq_of_lt hh3, Nat.mod_eq_of_lt h2, and_mask h2, ← Int.natCast_add, u64_wrapN, Nat.mod_eq_of_lt h3, shr32]
  rw [show (x / 4294967296 * (y / 4294967296) + (x / 4294967296 * (y % 4294967296) + x % 4294967296 * (y % 4294967296) / 4294967296) / 4294967296) % 18446744073709551616 = x / 4294967296 * (y / 4294967296) + (x / 4294967296 * (y % 4294967296) + x % 4294967296 * (y % 4294967296) / 4294967296) / 4294967296 from Nat.mod_eq_of_lt (by omega)]
  rw [h4, Nat.mod_eq_of_lt hm]

def lenTab : List UInt8 := [0, 1, 2, 2, 3, 3, 3, 3, 4, 4, 4, 4, 4, 4, 4, 4, 5, 5, 5, 5, 5, 5, 5, 5, 5, 5, 5, 5, 5, 5, 5, 5, 6, 6, 6, 6, 6, 6, 6, 6, 6, 6, 6, 6, 6, 6, 6, 6, 6, 6, 6, 6, 6, 6, 6, 6, 6, 6, 6, 6, 6, 6, 6, 6, 7, 7, 7, 7, 7, 7, 7, 7, 7, 7, 7, 7, 7, 7, 7, 7, 7, 7, 7, 7, 7, 7, 7, 7, 7, 7, 7, 7, 7, 7, 7, 7, 7, 7, 7, 7, 7, 7, 7, 7, 7, 7, 7, 7, 7, 7, 7, 7, 7, 7, 7, 7, 7, 7, 7, 7, 7, 7, 7, 7, 7, 7, 7, 7, 8, 8, 8, 8, 8, 8, 8, 8, 8, 8, 8, 8, 8, 8, 8, 8, 8, 8, 8, 8, 8, 8, 8, 8, 8, 8, 8, 8, 8, 8, 8, 8, 8, 8, 8, 8, 8, 8, 8, 8, 8, 8, 8, 8, 8, 8, 8, 8, 8, 8, 8, 8, 8, 8, 8, 8, 8, 8, 8, 8, 8, 8, 8, 8, 8, 8, 8, 8, 8, 8, 8, 8, 8, 8, 8, 8, 8, 8, 8, 8, 8, 8, 8, 8, 8, 8, 8, 8, 8, 8, 8, 8, 8, 8, 8, 8, 8, 8, 8, 8, 8, 8, 8, 8, 8, 8, 8, 8, 8, 8, 8, 8, 8, 8, 8, 8, 8, 8, 8, 8, 8, 8, 8, 8, 8, 8, 8, 8]
def lenGood (i : Nat) : Bool := match lenTab[i]? with
  | some b => decide (b.toNat ≤ 8) && (decide (i < 2 ^ b.toNat) && (decide (i = 0) || (decide (0 < b.toNat) && decide (2 ^ (b.toNat - 1) ≤ i))))
  | none => false
theorem lenGood_all : (List.range 256).all lenGood = true := by kernel_rfl
theorem lenTab_ok {i : Nat} (hi : i < 256) : ∃ b, lenTab[i]? = some b ∧ b.toNat ≤ 8 ∧ i < 2 ^ b.toNat ∧ (0 < i → 0 < b.toNat ∧ 2 ^ (b.toNat - 1) ≤ i) := by
  have h := List.all_eq_true.1 lenGood_all i (List.mem_range.2 hi)
  unfold lenGood at h
  split at h
  · rename_i b hb
    simp only [Bool.and_eq_true, Bool.or_eq_true, decide_eq_true_eq] at h
    refine ⟨b, hb, h.1, h.2.1, fun h0 => ?_⟩
    rcases h.2.2 with h1 | h1
    · omega
    · exact h1
  · cases h

theorem u8_wrap (n : Int) : IntKind.u8.wrap n = n % 256 := by simp [IntKind.wrap, IntKind.bits, IntKind.signed]
def lenAux (t : List UInt8) (a0 : Int) : Option Int :=
  jn (fun m2 : Int × Int =>
  jn (fun m5 : Int × Int =>
  jn (fun m8 : Int × Int =>
  (idx t (IntKind.u8.wrap m8.1)).bind fun x10 =>
  some (w64 (m8.2 + (w64 (x10.toNat : Int))))) (fun j9 =>
  (if (decide ((256 : Int) ≤ m5.1)) = true then
  j9 ((shrI .u64 m5.1 (8 : Int)), (w64 (m5.2 + (8 : Int))))
  else
  j9 (m5.1, m5.2)))) (fun j6 =>
  (if (decide ((65536 : Int) ≤ m2.1)) = true then
  j6 ((shrI .u64 m2.1 (16 : Int)), (w64 (m2.2 + (16 : Int))))
  else
  j6 (m2.1, m2.2)))) (fun j3 =>
  (if (decide ((4294967296 : Int) ≤ a0)) = true then
  j3 ((shrI .u64 a0 (32 : Int)), (32 : Int))
  else
  j3 (a0, (0 : Int))))
set_option maxRecDepth 100000 in
theorem lenAux_eq (a : Int) : bits_Len64 a = lenAux lenTab a := by unfold bits_Len64 lenAux lenTab; with_reducible rfl
/-- the length in bits of what has at most 24 -/
theorem len64_eq {y : Nat} (h0 : 0 < y) (h1 : y < 16777216) : ∃ n : Nat, bits_Len64 (y : Int) = some (n : Int) ∧ 0 < n ∧ n ≤ 24 ∧ 2 ^ (n - 1) ≤ y ∧ y < 2 ^ n := by
  have tab : ∀ (a k : Nat), 0 < a → a < 256 → k ≤ 16 → ∃ b : Nat, (idx lenTab (IntKind.u8.wrap (a : Int))).bind (fun x10 => some (w64 ((k : Int) + (w64 (x10.toNat : Int))))) = some ((k + b : Nat) : Int) ∧ 0 < b ∧ b ≤ 8 ∧ 2 ^ (b - 1) ≤ a ∧ a < 2 ^ b := by
    intro a k ha ha' hk
    obtain ⟨b, hb, h8, h2, h3⟩ := lenTab_ok ha'
    obtain ⟨h4, h5⟩ := h3 ha
    have hw : IntKind.u8.wrap (a : Int) = (a : Int) := by rw [u8_wrap]; omega
    refine ⟨b.toNat, ?_, h4, h8, h5, h2⟩
    rw [hw]
    refine bind_of (idx_get hb) ?_
    rw [w64_id (n := (b.toNat : Int)) (by omega) (by omega), w64_id (by omega) (by omega)]
    rfl
  rw [lenAux_eq]
  unfold lenAux
  unfold jn
  simp only
  rw [if_neg (by simp; omega)]
  by_cases hA : 65536 ≤ y
  · rw [if_pos (by simp; omega)]
    have e1 : shrI .u64 (y : Int) 16 = ((y / 65536 : Nat) : Int) := shr_nat y 16 (by omega)
    rw [e1, if_neg (by simp; omega)]
    rw [show w64 ((0 : Int) + 16) = ((16 : Nat) : Int) from by rw [w64_id (by omega) (by omega)]; rfl]
    obtain ⟨b, hb, g1, g2, g3, g4⟩ := tab (y / 65536) 16 (by omega) (by omega) (by omega)
    refine ⟨16 + b, hb, by omega, by omega, ?_, ?_⟩
    · have e : 2 ^ (16 + b - 1) = 2 ^ (b - 1) * 65536 := by
        rw [show 16 + b - 1 = (b - 1) + 16 from by omega, Nat.pow_add]
      rw [e]; omega
    · rw [Nat.pow_add]
      have : 2 ^ 16 = 65536 := by decide
      omega
  · rw [if_neg (by simp; omega)]
    by_cases hB : 256 ≤ y
    · rw [if_pos (by simp; omega)]
      have e1 : shrI .u64 (y : Int) 8 = ((y / 256 : Nat) : Int) := shr_nat y 8 (by omega)
      rw [e1]
      rw [show w64 ((0 : Int) + 8) = ((8 : Nat) : Int) from by rw [w64_id (by omega) (by omega)]; rfl]
      obtain ⟨b, hb, g1, g2, g3, g4⟩ := tab (y / 256) 8 (by omega) (by omega) (by omega)
      refine ⟨8 + b, hb, by omega, by omega, ?_, ?_⟩
      · have e : 2 ^ (8 + b - 1) = 2 ^ (b - 1) * 256 := by
          rw [show 8 + b - 1 = (b - 1) + 8 from by omega, Nat.pow_add]
        rw [e]; omega
      · rw [Nat.pow_add]
        have : 2 ^ 8 = 256 := by decide
        omega
    · rw [if_neg (by simp; omega)]
      obtain ⟨b, hb, g1, g2, g3, g4⟩ := tab y 0 (by omega) (by omega) (by omega)
      refine ⟨0 + b, hb, by omega, by omega, ?_, ?_⟩
      · rw [Nat.zero_add]; exact g3
      · rw [Nat.zero_add]; exact g4
end Go.Proofs.Ytpdfmjkfplgkfaa

/- Chapter 38 in plain Lean: Mul64, Len64, Div64; what a cell stands for; rules -/
import Derived.Test.YtpdfmjkfplgkfaaFns
import Derived.Test.YtpdfmjkfplgkfaaVcO
import Derived.Test.YtpdfmjkfplgkfaaVcQ
import Derived.Lib.Mul64
import Derived.Lib.EndianBits
namespace Go.Proofs.Ytpdfmjkfplgkfaa
open Go Go.Vc

theorem u64_nat {n : Nat} (h : n < 18446744073709551616) : IntKind.u64.wrap (n : Int) = n := by
  rw [IntKind.wrap_u64]; omega
theorem u64_wrapN (n : Nat) : IntKind.u64.wrap (n : Int) = ((n % 18446744073709551616 : Nat) : Int) := by
  rw [IntKind.wrap_u64]; omega
theorem and_mask {n : Nat} (h : n < 18446744073709551616) : bitI .and .u64 (n : Int) 4294967295 = ((n % 4294967296 : Nat) : Int) := by
  show IntKind.u64.wrap ((BitVec.ofInt 64 (n : Int) &&& BitVec.ofInt 64 4294967295).toNat : Int) = _
  have e : (BitVec.ofInt 64 (n : Int) &&& BitVec.ofInt 64 4294967295).toNat = n % 4294967296 := by
    rw [BitVec.toNat_and, BitVec.ofInt_natCast, BitVec.toNat_ofNat, show (BitVec.ofInt 64 4294967295).toNat = 2 ^ 32 - 1 from by rfl, Nat.and_two_pow_sub_one_eq_mod, Nat.mod_eq_of_lt (show n < 2 ^ 64 from h)]
  rw [e, u64_nat (by omega)]
theorem or_nat {a b : Nat} (ha : a < 18446744073709551616) (hb : b < 18446744073709551616) : bitI .or .u64 (a : Int) (b : Int) = ((a ||| b : Nat) : Int) := by
  show IntKind.u64.wrap ((BitVec.ofInt 64 (a : Int) ||| BitVec.ofInt 64 (b : Int)).toNat : Int) = _
  have e : (BitVec.ofInt 64 (a : Int) ||| BitVec.ofInt 64 (b : Int)).toNat = a ||| b := by
    rw [BitVec.toNat_or, BitVec.ofInt_natCast, BitVec.toNat_ofNat, BitVec.ofInt_natCast, BitVec.toNat_ofNat, Nat.mod_eq_of_lt (show a < 2 ^ 64 from ha), Nat.mod_eq_of_lt (show b < 2 ^ 64 from hb)]
  rw [e, u64_nat (Nat.or_lt_two_pow (n := 64) ha hb)]
theorem shr_nat (n k : Nat) (hk : k ≤ 64) : shrI .u64 (n : Int) (k : Int) = ((n / 2 ^ k : Nat) : Int) := by
  show (n : Int).fdiv (2 ^ (min (k : Int).toNat IntKind.u64.bits)) = _
  rw [show (min (k : Int).toNat IntKind.u64.bits) = k from by show min k 64 = k; omega, Int.fdiv_eq_ediv_of_nonneg _ (Int.le_of_lt (Int.pow_pos (by decide)))]
  have : ((2 : Int) ^ k) = ((2 ^ k : Nat) : Int) := by rw [Int.natCast_pow]; rfl
  rw [this]
  rfl
theorem shl_nat (n k : Nat) (hk : k ≤ 64) : shlI .u64 (n : Int) (k : Int) = ((n * 2 ^ k % 18446744073709551616 : Nat) : Int) := by
  show IntKind.u64.wrap ((n : Int) * 2 ^ (min (k : Int).toNat IntKind.u64.bits)) = _
  rw [show (min (k : Int).toNat IntKind.u64.bits) = k from by show min k 64 = k; omega]
  have : (n : Int) * (2 : Int) ^ k = ((n * 2 ^ k : Nat) : Int) := by rw [Int.natCast_mul, Int.natCast_pow]; rfl
  rw [this, u64_wrapN]
theorem shr32 (n : Nat) : shrI .u64 (n : Int) 32 = ((n / 4294967296 : Nat) : Int) := shr_nat n 32 (by omega)

theorem mul64_eq {x y : Nat} (hx : x < 18446744073709551616) (hy : y < 18446744073709551616) : bits_Mul64 (x : Int) (y : Int) = some (((x * y / 18446744073709551616 : Nat) : Int), ((x * y % 18446744073709551616 : Nat) : Int)) := by
  obtain ⟨h1, h2, h3, h4⟩ := Lib.mul64_hi x y hx hy
  have hp : ((x : Int) * (y : Int)) = ((x * y : Nat) : Int) := by rw [Int.natCast_mul]
  unfold bits_Mul64
  simp only [shr32, and_mask hx, and_mask hy, hp, u64_wrapN, ← Int.natCast_mul, ← Int.natCast_add, Nat.mod_eq_of_lt h1, Nat.mod_eq_of_lt h2]
  have hh1 : x / 4294967296 * (y / 4294967296) < 18446744073709551616 := by
    have := Lib.half_mul_le (a := x / 4294967296) (b := y / 4294967296) (by omega) (by omega); omega
  have hh2 : x / 4294967296 * (y % 4294967296) < 18446744073709551616 := by
    have := Lib.half_mul_le (a := x / 4294967296) (b := y % 4294967296) (by omega) (by omega); omega
  have hh3 : x % 4294967296 * (y / 4294967296) < 18446744073709551616 := by
    have := Lib.half_mul_le (a := x % 4294967296) (b := y / 4294967296) (by omega) (by omega); omega
  have hm : x * y / 18446744073709551616 < 18446744073709551616 := by
    rw [Nat.div_lt_iff_lt_mul (by decide)]
    exact Nat.mul_lt_mul_of_lt_of_lt hx hy
  simp only [Nat.mod_eq_of_lt hh1, Nat.mod_eq_of_lt hh2, Nat.mod_eq_of_lt hh3, Nat.mod_eq_of_lt h2, and_mask h2, ← Int.natCast_add, u64_wrapN, Nat.mod_eq_of_lt h3, shr32]
  rw [show (x / 4294967296 * (y / 4294967296) + (x / 4294967296 * (y % 4294967296) + x % 4294967296 * (y % 4294967296) / 4294967296) / 4294967296) % 18446744073709551616 = x / 4294967296 * (y / 4294967296) + (x / 4294967296 * (y % 4294967296) + x % 4294967296 * (y % 4294967296) / 4294967296) / 4294967296 from Nat.mod_eq_of_lt (by omega)]
  rw [h4, Nat.mod_eq_of_lt hm]

def lenTab : List UInt8 := [0, 1, 2, 2, 3, 3, 3, 3, 4, 4, 4, 4, 4, 4, 4, 4, 5, 5, 5, 5, 5, 5, 5, 5, 5, 5, 5, 5, 5, 5, 5, 5, 6, 6, 6, 6, 6, 6, 6, 6, 6, 6, 6, 6, 6, 6, 6, 6, 6, 6, 6, 6, 6, 6, 6, 6, 6, 6, 6, 6, 6, 6, 6, 6, 7, 7, 7, 7, 7, 7, 7, 7, 7, 7, 7, 7, 7, 7, 7, 7, 7, 7, 7, 7, 7, 7, 7, 7, 7, 7, 7, 7, 7, 7, 7, 7, 7, 7, 7, 7, 7, 7, 7, 7, 7, 7, 7, 7, 7, 7, 7, 7, 7, 7, 7, 7, 7, 7, 7, 7, 7, 7, 7, 7, 7, 7, 7, 7, 8, 8, 8, 8, 8, 8, 8, 8, 8, 8, 8, 8, 8, 8, 8, 8, 8, 8, 8, 8, 8, 8, 8, 8, 8, 8, 8, 8, 8, 8, 8, 8, 8, 8, 8, 8, 8, 8, 8, 8, 8, 8, 8, 8, 8, 8, 8, 8, 8, 8, 8, 8, 8, 8, 8, 8, 8, 8, 8, 8, 8, 8, 8, 8, 8, 8, 8, 8, 8, 8, 8, 8, 8, 8, 8, 8, 8, 8, 8, 8, 8, 8, 8, 8, 8, 8, 8, 8, 8, 8, 8, 8, 8, 8, 8, 8, 8, 8, 8, 8, 8, 8, 8, 8, 8, 8, 8, 8, 8, 8, 8, 8, 8, 8, 8, 8, 8, 8, 8, 8, 8, 8, 8, 8, 8, 8, 8, 8]
def lenGood (i : Nat) : Bool := match lenTab[i]? with
  | some b => decide (b.toNat ≤ 8) && (decide (i < 2 ^ b.toNat) && (decide (i = 0) || (decide (0 < b.toNat) && decide (2 ^ (b.toNat - 1) ≤ i))))
  | none => false
theorem lenGood_all : (List.range 256).all lenGood = true := by kernel_rfl
theorem lenTab_ok {i : Nat} (hi : i < 256) : ∃ b, lenTab[i]? = some b ∧ b.toNat ≤ 8 ∧ i < 2 ^ b.toNat ∧ (0 < i → 0 < b.toNat ∧ 2 ^ (b.toNat - 1) ≤ i) := by
  have h := List.all_eq_true.1 lenGood_all i (List.mem_range.2 hi)
  unfold lenGood at h
  split at h
  · rename_i b hb
    simp only [Bool.and_eq_true, Bool.or_eq_true, decide_eq_true_eq] at h
    refine ⟨b, hb, h.1, h.2.1, fun h0 => ?_⟩
    rcases h.2.2 with h1 | h1
    · omega
    · exact h1
  · cases h

theorem u8_wrap (n : Int) : IntKind.u8.wrap n = n % 256 := by simp [IntKind.wrap, IntKind.bits, IntKind.signed]
def lenAux (t : List UInt8) (a0 : Int) : Option Int :=
  jn (fun m2 : Int × Int =>
  jn (fun m5 : Int × Int =>
  jn (fun m8 : Int × Int =>
  (idx t (IntKind.u8.wrap m8.1)).bind fun x10 =>
  some (w64 (m8.2 + (w64 (x10.toNat : Int))))) (fun j9 =>
  (if (decide ((256 : Int) ≤ m5.1)) = true then
  j9 ((shrI .u64 m5.1 (8 : Int)), (w64 (m5.2 + (8 : Int))))
  else
  j9 (m5.1, m5.2)))) (fun j6 =>
  (if (decide ((65536 : Int) ≤ m2.1)) = true then
  j6 ((shrI .u64 m2.1 (16 : Int)), (w64 (m2.2 + (16 : Int))))
  else
  j6 (m2.1, m2.2)))) (fun j3 =>
  (if (decide ((4294967296 : Int) ≤ a0)) = true then
  j3 ((shrI .u64 a0 (32 : Int)), (32 : Int))
  else
  j3 (a0, (0 : Int))))
set_option maxRecDepth 100000 in
theorem lenAux_eq (a : Int) : bits_Len64 a = lenAux lenTab a := by unfold bits_Len64 lenAux lenTab; with_reducible rfl
/-- the length in bits of what has at most 24 -/
theorem len64_eq {y : Nat} (h0 : 0 < y) (h1 : y < 16777216) : ∃ n : Nat, bits_Len64 (y : Int) = some (n : Int) ∧ 0 < n ∧ n ≤ 24 ∧ 2 ^ (n - 1) ≤ y ∧ y < 2 ^ n := by
  have tab : ∀ (a k : Nat), 0 < a → a < 256 → k ≤ 16 → ∃ b : Nat, (idx lenTab (IntKind.u8.wrap (a : Int))).bind (fun x10 => some (w64 ((k : Int) + (w64 (x10.toNat : Int))))) = some ((k + b : Nat) : Int) ∧ 0 < b ∧ b ≤ 8 ∧ 2 ^ (b - 1) ≤ a ∧ a < 2 ^ b := by
    intro a k ha ha' hk
    obtain ⟨b, hb, h8, h2, h3⟩ := lenTab_ok ha'
    obtain ⟨h4, h5⟩ := h3 ha
    have hw : IntKind.u8.wrap (a : Int) = (a : Int) := by rw [u8_wrap]; omega
    refine ⟨b.toNat, ?_, h4, h8, h5, h2⟩
    rw [hw]
    refine bind_of (idx_get hb) ?_
    rw [w64_id (n := (b.toNat : Int)) (by omega) (by omega), w64_id (by omega) (by omega)]
    rfl
  rw [lenAux_eq]
  unfold lenAux
  unfold jn
  simp only
  rw [if_neg (by simp; omega)]
  by_cases hA : 65536 ≤ y
  · rw [if_pos (by simp; omega)]
    have e1 : shrI .u64 (y : Int) 16 = ((y / 65536 : Nat) : Int) := shr_nat y 16 (by omega)
    rw [e1, if_neg (by simp; omega)]
    rw [show w64 ((0 : Int) + 16) = ((16 : Nat) : Int) from by rw [w64_id (by omega) (by omega)]; rfl]
    obtain ⟨b, hb, g1, g2, g3, g4⟩ := tab (y / 65536) 16 (by omega) (by omega) (by omega)
    refine ⟨16 + b, hb, by omega, by omega, ?_, ?_⟩
    · have e : 2 ^ (16 + b - 1) = 2 ^ (b - 1) * 65536 := by
        rw [show 16 + b - 1 = (b - 1) + 16 from by omega, Nat.pow_add]
      rw [e]; omega
    · rw [Nat.pow_add]
      have : 2 ^ 16 = 65536 := by decide
      omega
  · rw [if_neg (by simp; omega)]
    by_cases hB : 256 ≤ y
    · rw [if_pos (by simp; omega)]
      have e1 : shrI .u64 (y : Int) 8 = ((y / 256 : Nat) : Int) := shr_nat y 8 (by omega)
      rw [e1]
      rw [show w64 ((0 : Int) + 8) = ((8 : Nat) : Int) from by rw [w64_id (by omega) (by omega)]; rfl]
      obtain ⟨b, hb, g1, g2, g3, g4⟩ := tab (y / 256) 8 (by omega) (by omega) (by omega)
      refine ⟨8 + b, hb, by omega, by omega, ?_, ?_⟩
      · have e : 2 ^ (8 + b - 1) = 2 ^ (b - 1) * 256 := by
          rw [show 8 + b - 1 = (b - 1) + 8 from by omega, Nat.pow_add]
        rw [e]; omega
      · rw [Nat.pow_add]
        have : 2 ^ 8 = 256 := by decide
        omega
    · rw [if_neg (by simp; omega)]
      obtain ⟨b, hb, g1, g2, g3, g4⟩ := tab y 0 (by omega) (by omega) (by omega)
      refine ⟨0 + b, hb, by omega, by omega, ?_, ?_⟩
      · rw [Nat.zero_add]; exact g3
      · rw [Nat.zero_add]; exact g4

theorem div_core {U w yn B : Nat} (hB : 0 < B) (hyn : 0 < yn) (hU : U < yn * B) (hw : w < B * B) :
    (U * (B * B) + w) / (yn * B) = U / yn * B + (U % yn * B + w / B) / yn ∧ U / yn < B ∧ (U % yn * B + w / B) / yn < B := by
  have d1 := Nat.div_add_mod' U yn
  have m1 := Nat.mod_lt U hyn
  have q1lt : U / yn < B := by
    rw [Nat.div_lt_iff_lt_mul hyn, Nat.mul_comm]; exact hU
  have hV : w / B < B := by rw [Nat.div_lt_iff_lt_mul hB]; exact hw
  have dw := Nat.div_add_mod' w B
  have mw := Nat.mod_lt w hB
  generalize w / B = V at *
  generalize w % B = R at *
  generalize U / yn = q1 at *
  generalize U % yn = rh at *
  have d2 := Nat.div_add_mod' (rh * B + V) yn
  have m2 := Nat.mod_lt (rh * B + V) hyn
  have q0lt : (rh * B + V) / yn < B := by
    rw [Nat.div_lt_iff_lt_mul hyn]
    have h1 : (rh + 1) * B ≤ yn * B := Nat.mul_le_mul_right _ m1
    rw [Nat.add_mul, Nat.one_mul] at h1
    rw [Nat.mul_comm B yn]
    omega
  refine ⟨?_, q1lt, q0lt⟩
  generalize (rh * B + V) / yn = q0 at *
  generalize (rh * B + V) % yn = r2 at *
  have e1 : q1 * B * (yn * B) = q1 * yn * (B * B) := Nat.mul_mul_mul_comm ..
  have e2 : q0 * (yn * B) = q0 * yn * B := (Nat.mul_assoc ..).symm
  have e3 : (q0 * yn + r2) * B = (rh * B + V) * B := by rw [d2]
  rw [Nat.add_mul, Nat.add_mul, Nat.mul_assoc rh] at e3
  have hs : U * (B * B) + w = (yn * B) * (q1 * B + q0) + (r2 * B + R) := by
    rw [← d1, ← dw, Nat.add_mul, Nat.mul_comm (yn * B), Nat.add_mul, e1, e2]
    omega
  have hlt : r2 * B + R < yn * B := by
    have h1 : (r2 + 1) * B ≤ yn * B := Nat.mul_le_mul_right _ m2
    rw [Nat.add_mul, Nat.one_mul] at h1
    omega
  rw [hs, Nat.mul_add_div (Nat.mul_pos hyn hB), Nat.div_eq_of_lt hlt, Nat.add_zero]
/-- the long division by halves of 32 bits, of a divisor whose lower half is nothing -/
theorem div_split {hi lo y s : Nat} (h0 : 0 < y) (hs : 32 ≤ s) (hs' : s ≤ 63) (hY : y * 2 ^ s < 18446744073709551616) (hhi : hi < y) (hlo : lo < 18446744073709551616) :
    ∃ yn1 U un10 q1 rh q0 r2 : Nat, y * 2 ^ s = yn1 * 4294967296 ∧ 0 < yn1 ∧ U = hi * 2 ^ s + lo / 2 ^ (64 - s) ∧ U < y * 2 ^ s ∧ un10 = lo * 2 ^ s % 18446744073709551616 ∧ q1 = U / yn1 ∧ q1 < 4294967296 ∧ rh = U % yn1 ∧
      q0 = (rh * 4294967296 + un10 / 4294967296) / yn1 ∧ q0 < 4294967296 ∧ r2 = (rh * 4294967296 + un10 / 4294967296) % yn1 ∧ (hi * 18446744073709551616 + lo) / y = q1 * 4294967296 + q0 ∧ U = q1 * yn1 + rh ∧ rh < yn1 ∧ rh * 4294967296 + un10 / 4294967296 = q0 * yn1 + r2 ∧ r2 < yn1 := by
  obtain ⟨e, rfl⟩ : ∃ e, s = e + 32 := ⟨s - 32, by omega⟩
  have hp : 0 < 2 ^ e := Nat.pow_pos (by decide)
  have hY1 : y * 2 ^ (e + 32) = (y * 2 ^ e) * 4294967296 := by rw [Nat.pow_add, ← Nat.mul_assoc]
  have hyn : 0 < y * 2 ^ e := Nat.mul_pos h0 hp
  have h64 : 2 ^ (e + 32) * 2 ^ (64 - (e + 32)) = 18446744073709551616 := by rw [← Nat.pow_add, show e + 32 + (64 - (e + 32)) = 64 from by omega]
  have hL : lo / 2 ^ (64 - (e + 32)) < 2 ^ (e + 32) := by
    rw [Nat.div_lt_iff_lt_mul (Nat.pow_pos (by decide)), h64]; exact hlo
  have hU : hi * 2 ^ (e + 32) + lo / 2 ^ (64 - (e + 32)) < y * 2 ^ (e + 32) := by
    have : (hi + 1) * 2 ^ (e + 32) ≤ y * 2 ^ (e + 32) := Nat.mul_le_mul_right _ hhi
    rw [Nat.add_mul, Nat.one_mul] at this
    omega
  -- lo's two parts
  have hlo2 : lo * 2 ^ (e + 32) = lo / 2 ^ (64 - (e + 32)) * 18446744073709551616 + lo * 2 ^ (e + 32) % 18446744073709551616 := by
    have h1 : lo * 2 ^ (e + 32) / 18446744073709551616 = lo / 2 ^ (64 - (e + 32)) := by
      rw [← h64, Nat.mul_comm lo, Nat.mul_div_mul_left _ _ (Nat.pow_pos (by decide))]
    have := Nat.div_add_mod' (lo * 2 ^ (e + 32)) 18446744073709551616
    rw [h1] at this
    exact this.symm
  have hN : (hi * 18446744073709551616 + lo) / y = ((hi * 2 ^ (e + 32) + lo / 2 ^ (64 - (e + 32))) * 18446744073709551616 + lo * 2 ^ (e + 32) % 18446744073709551616) / (y * 2 ^ (e + 32)) := by
    have key : ∀ (K P L R lo : Nat), lo * P = L * K + R → (hi * K + lo) * P = (hi * P + L) * K + R := by
      intro K P L R lo h
      rw [Nat.add_mul, h, Nat.add_mul, Nat.mul_right_comm, Nat.add_assoc]
    rw [← Nat.mul_div_mul_right (hi * 18446744073709551616 + lo) y (Nat.pow_pos (n := e + 32) (show 0 < 2 by decide)), key _ _ _ _ _ hlo2]
  rw [hN]
  have hm : lo * 2 ^ (e + 32) % 18446744073709551616 < 18446744073709551616 := Nat.mod_lt _ (by decide)
  generalize lo * 2 ^ (e + 32) % 18446744073709551616 = un10 at *
  generalize hi * 2 ^ (e + 32) + lo / 2 ^ (64 - (e + 32)) = U at *
  rw [hY1] at hU hY ⊢
  generalize y * 2 ^ e = yn1 at *
  obtain ⟨c1, c2, c3⟩ := div_core (U := U) (w := un10) (yn := yn1) (B := 4294967296) (by decide) hyn hU hm
  exact ⟨yn1, U, un10, _, _, _, _, rfl, hyn, rfl, hU, rfl, rfl, c2, rfl, rfl, c3, rfl, c1, (Nat.div_add_mod' U yn1).symm, Nat.mod_lt U hyn, (Nat.div_add_mod' _ yn1).symm, Nat.mod_lt _ hyn⟩

theorem tdiv_nat (a b : Nat) : Int.tdiv (a : Int) (b : Int) = ((a / b : Nat) : Int) := by
  rw [Int.tdiv_eq_ediv_of_nonneg (by omega)]; rfl
theorem u64_pos (n : Int) : 0 ≤ IntKind.u64.wrap n ∧ IntKind.u64.wrap n < 18446744073709551616 := by
  rw [IntKind.wrap_u64]; omega
theorem div64_L0 {lo y s : Nat} {q rh : Nat} (hq : q < 4294967296) (hand : bitI .and .u64 (shlI .u64 (y : Int) (IntKind.u64.wrap (s : Int))) (4294967295 : Int) = 0) : loop (bits_Div64_L0 (lo : Int) (y : Int) (s : Int)) ((q : Int), (rh : Int)) = some (q : Int) := by
  refine loop_out ?_
  unfold bits_Div64_L0
  simp only [hand, Int.mul_zero]
  rw [if_neg]
  have h1 := u64_pos (IntKind.u64.wrap ((4294967296 : Int) * (rh : Int)) + shrI .u64 (shlI .u64 (lo : Int) (IntKind.u64.wrap (s : Int))) 32)
  have h2 : IntKind.u64.wrap 0 = 0 := by rw [IntKind.wrap_u64]; rfl
  rw [h2]
  simp only [Bool.or_eq_true, decide_eq_true_eq]
  omega
theorem div64_L1 {lo y s : Nat} {q rh : Nat} (hq : q < 4294967296) (hand : bitI .and .u64 (shlI .u64 (y : Int) (IntKind.u64.wrap (s : Int))) (4294967295 : Int) = 0) : loop (bits_Div64_L1 (lo : Int) (y : Int) (s : Int)) ((rh : Int), (q : Int)) = some (q : Int) := by
  refine loop_out ?_
  unfold bits_Div64_L1
  simp only [hand, Int.mul_zero]
  rw [if_neg]
  have h1 := u64_pos (IntKind.u64.wrap ((4294967296 : Int) * (rh : Int)) + bitI .and .u64 (shlI .u64 (lo : Int) (IntKind.u64.wrap (s : Int))) 4294967295)
  have h2 : IntKind.u64.wrap 0 = 0 := by rw [IntKind.wrap_u64]; rfl
  rw [h2]
  simp only [Bool.or_eq_true, decide_eq_true_eq]
  omega

theorem wrap_sub {A U r : Nat} (h : U = A + r) (hr : r < 18446744073709551616) : IntKind.u64.wrap ((U : Int) - IntKind.u64.wrap (A : Int)) = (r : Int) := by
  rw [IntKind.wrap_u64, IntKind.wrap_u64]; omega
theorem wrap_T {A U w T : Nat} (h : U * 4294967296 + w = A + T) (hT : T < 18446744073709551616) : IntKind.u64.wrap (IntKind.u64.wrap (IntKind.u64.wrap ((U : Int) * (4294967296 : Int)) + (w : Int)) - IntKind.u64.wrap (A : Int)) = (T : Int) := by
  rw [IntKind.wrap_u64, IntKind.wrap_u64, IntKind.wrap_u64, IntKind.wrap_u64]; omega
theorem wrap_Q {a b : Nat} (ha : a < 4294967296) (hb : b < 4294967296) : IntKind.u64.wrap (IntKind.u64.wrap ((a : Int) * 4294967296) + (b : Int)) = ((a * 4294967296 + b : Nat) : Int) := by
  rw [IntKind.wrap_u64, IntKind.wrap_u64]; omega
theorem T_lt {rh yn V B M : Nat} (h : rh < yn) (hV : V < B) (hy : yn * B < M) : rh * B + V < M := by
  have h1 : (rh + 1) * B ≤ yn * B := Nat.mul_le_mul_right B h
  rw [Nat.add_mul, Nat.one_mul] at h1
  omega
theorem U_split {q yn r U w B : Nat} (h : U = q * yn + r) : U * B + w = q * (yn * B) + (r * B + w) := by
  rw [h, Nat.add_mul, Nat.mul_assoc, Nat.add_assoc]
theorem div64_eq {hi lo y : Nat} (h0 : 0 < y) (hy : y ≤ 1048576) (hhi : hi < y) (hlo : lo < 18446744073709551616) : Tot (bits_Div64 (hi : Int) (lo : Int) (y : Int)) fun r => r.1 = (((hi * 18446744073709551616 + lo) / y : Nat) : Int) := by
  unfold bits_Div64
  refine Tot.iteF (by simp; omega) (Tot.iteF (by simp; omega) (Tot.ite (fun hz => ?_) fun hz => ?_))
  · have hz' : hi = 0 := by simpa using hz
    subst hz'
    refine Tot.chk (by simp; omega) (Tot.chk (by simp; omega) (Tot.some ?_))
    simp only
    rw [tdiv_nat, u64_nat (Nat.lt_of_le_of_lt (Nat.div_le_self _ _) hlo), Nat.zero_mul, Nat.zero_add]
  · obtain ⟨n, hn, n0, n1, n2, n3⟩ := len64_eq h0 (by omega)
    have hlz : bits_LeadingZeros64 (y : Int) = some (((64 - n : Nat) : Int)) := by
      unfold bits_LeadingZeros64
      refine bind_of hn ?_
      rw [w64_id (by omega) (by omega)]
      congr 1
      omega
    refine Tot.bindOf hlz ?_
    have hs1 : 64 - n ≤ 63 := by omega
    have hs2 : 32 ≤ 64 - n := by omega
    have hYlt : y * 2 ^ (64 - n) < 18446744073709551616 := by
      have h1 : y * 2 ^ (64 - n) < 2 ^ n * 2 ^ (64 - n) := Nat.mul_lt_mul_of_pos_right n3 (Nat.pow_pos (by decide))
      rw [← Nat.pow_add, show n + (64 - n) = 64 from by omega] at h1
      exact h1
    generalize 64 - n = s at hs1 hs2 hYlt
    obtain ⟨yn1, U, un10, q1, rh, q0, r2, a1, a2, a3, a4, a5, a6, a7, a8, a9, a10, a11, a12, a13, a14, a15, a16⟩ := div_split h0 hs2 hs1 hYlt hhi hlo
    have hunlt : un10 < 18446744073709551616 := by rw [a5]; exact Nat.mod_lt _ (by decide)
    have hVlt : un10 / 4294967296 < 4294967296 := by rw [Nat.div_lt_iff_lt_mul (by decide)]; exact hunlt
    have hYlt' : yn1 * 4294967296 < 18446744073709551616 := by rw [← a1]; exact hYlt
    have hH : hi * 2 ^ s < 18446744073709551616 := by
      have h1 : hi * 2 ^ s ≤ U := by rw [a3]; exact Nat.le_add_right _ _
      exact Nat.lt_of_le_of_lt h1 (Nat.lt_trans a4 hYlt)
    have hT : rh * 4294967296 + un10 / 4294967296 < 18446744073709551616 := T_lt a14 hVlt hYlt'
    have hU1 : U * 4294967296 + un10 / 4294967296 = q1 * (yn1 * 4294967296) + (rh * 4294967296 + un10 / 4294967296) := U_split a13
    have g1 : IntKind.u64.wrap ((U : Int) - IntKind.u64.wrap ((q1 * yn1 : Nat) : Int)) = (rh : Int) := wrap_sub a13 (Nat.lt_trans (Nat.lt_of_lt_of_le a14 (Nat.le_mul_of_pos_right _ (by decide))) hYlt')
    have f_un1 : shrI .u64 (un10 : Int) 32 = ((un10 / 4294967296 : Nat) : Int) := shr32 _
    have f_yn1 : shrI .u64 ((yn1 * 4294967296 : Nat) : Int) 32 = (yn1 : Int) := by
      rw [shr32, Nat.mul_div_cancel _ (by decide)]
    have f_yn0 : bitI .and .u64 ((yn1 * 4294967296 : Nat) : Int) 4294967295 = 0 := by
      rw [and_mask hYlt', Nat.mul_mod_left]; rfl
    clear hVlt
    obtain ⟨V, hVe⟩ : ∃ V, V = un10 / 4294967296 := ⟨_, rfl⟩
    rw [← hVe] at a9 a15 hT hU1 f_un1
    obtain ⟨T, hTe⟩ : ∃ T, T = rh * 4294967296 + V := ⟨_, rfl⟩
    rw [← hTe] at a9 a15 hT hU1
    obtain ⟨Y, hYe⟩ : ∃ Y, Y = yn1 * 4294967296 := ⟨_, rfl⟩
    rw [← hYe] at a1 hU1 f_yn1 f_yn0 hYlt'
    have f_r8 : IntKind.u64.wrap (s : Int) = (s : Int) := u64_nat (by omega)
    have f_sub : IntKind.u64.wrap ((64 : Int) - (s : Int)) = ((64 - s : Nat) : Int) := by
      rw [show (64 : Int) - (s : Int) = ((64 - s : Nat) : Int) from by omega, u64_nat (by omega)]
    have f_Y : shlI .u64 (y : Int) (s : Int) = (Y : Int) := by
      rw [shl_nat _ _ (by omega), Nat.mod_eq_of_lt hYlt, a1]
    have hL : lo / 2 ^ (64 - s) < 2 ^ s := by
      rw [Nat.div_lt_iff_lt_mul (Nat.pow_pos (by decide)), ← Nat.pow_add, show s + (64 - s) = 64 from by omega]; exact hlo
    have f_hi : shlI .u64 (hi : Int) (s : Int) = ((hi * 2 ^ s : Nat) : Int) := by
      rw [shl_nat _ _ (by omega), Nat.mod_eq_of_lt hH]
    have f_lo : shrI .u64 (lo : Int) ((64 - s : Nat) : Int) = ((lo / 2 ^ (64 - s) : Nat) : Int) := shr_nat _ _ (by omega)
    have f_or : bitI .or .u64 ((hi * 2 ^ s : Nat) : Int) ((lo / 2 ^ (64 - s) : Nat) : Int) = (U : Int) := by
      rw [or_nat hH (Nat.lt_of_le_of_lt (Nat.div_le_self _ _) hlo), a3, Nat.mul_comm hi, ← Nat.two_pow_add_eq_or_of_lt hL]
    have f_lo2 : shlI .u64 (lo : Int) (s : Int) = (un10 : Int) := by rw [shl_nat _ _ (by omega), a5]
    have f_q1 : IntKind.u64.wrap (Int.tdiv (U : Int) (yn1 : Int)) = (q1 : Int) := by
      rw [tdiv_nat, ← a6, u64_nat (Nat.lt_trans a7 (by decide))]
    have f_rh : IntKind.u64.wrap ((U : Int) - IntKind.u64.wrap ((q1 : Int) * (yn1 : Int))) = (rh : Int) := by
      rw [← Int.natCast_mul]; exact g1
    have f_T : IntKind.u64.wrap (IntKind.u64.wrap (IntKind.u64.wrap ((U : Int) * (4294967296 : Int)) + (V : Int)) - IntKind.u64.wrap ((q1 : Int) * (Y : Int))) = (T : Int) := by
      rw [← Int.natCast_mul]
      exact wrap_T hU1 hT
    have f_q0 : IntKind.u64.wrap (Int.tdiv (T : Int) (yn1 : Int)) = (q0 : Int) := by
      rw [tdiv_nat, ← a9, u64_nat (Nat.lt_trans a10 (by decide))]
    have f_r2 : IntKind.u64.wrap ((T : Int) - IntKind.u64.wrap ((q0 : Int) * (yn1 : Int))) = (r2 : Int) := by
      rw [← Int.natCast_mul]
      exact wrap_sub a15 (Nat.lt_of_le_of_lt (by rw [a15]; exact Nat.le_add_left _ _) hT)
    have hand : bitI .and .u64 (shlI .u64 (y : Int) (IntKind.u64.wrap (s : Int))) (4294967295 : Int) = 0 := by rw [f_r8, f_Y, f_yn0]
    simp only [f_r8, f_sub, f_Y, f_yn1, f_hi, f_lo, f_or, f_lo2, f_un1, f_q1, f_rh]
    refine Tot.chk (by simp; omega) (Tot.bindOf (div64_L0 a7 hand) (Tot.chk (by simp; omega) ?_))
    simp only [f_T, f_q0, f_r2]
    refine Tot.bindOf (div64_L1 a10 hand) (Tot.some ?_)
    show IntKind.u64.wrap (IntKind.u64.wrap ((q1 : Int) * 4294967296) + (q0 : Int)) = _
    rw [a12]
    exact wrap_Q a7 a10

/-- what a cell stands for: the code's answer is the document's -/
theorem est_eq (c : api_Cell) (n p : Int) : exchangepointref38_Estimate c n p = matrix_Estimate c n p := rfl

abbrev I64 (x : Int) : Prop := IntKind.i64.min ≤ x ∧ x ≤ IntKind.i64.max

theorem mod_eq (a m : Int) (hm : 0 < m) (hb : m ≤ 4611686018427387904) : exchangepointmill_Mod a m = some (a % m) := by
  obtain ⟨h0, h1⟩ := emod_lt' a hm
  unfold exchangepointmill_Mod
  refine chk_of (by simp; omega) ?_
  unfold jn
  rcases tmod_emod a hm with h | ⟨h, hn⟩
  · rw [h]
    exact ite_of_f (by simp; omega) rfl
  · rw [h]
    refine ite_of_t (by simp; omega) ?_
    rw [show a % m - m + m = a % m from by omega, w64_id (by omega) (by omega)]

/-- arguments that are permitted -/
structure EstOk (c : api_Cell) (n p : Int) : Prop where
  n1 : 1 ≤ n
  n2 : n ≤ 1048576
  p1 : n ≤ p
  p2 : p ≤ 1099511627776
  s1 : 0 ≤ c.fSamples
  s2 : c.fSamples ≤ n
  b1 : 0 ≤ c.fBytes
  b2 : c.fBytes ≤ 1073741824
open Classical in
noncomputable def EstF (c : api_Cell) (n p : Int) : Int × Int :=
  if EstOk c n p then
    (if 1125899906842624 < c.fBytes * p / n then (0, 3) else (c.fBytes * p / n, 0))
  else (0, 1)
theorem est_tot (c : api_Cell) (n p : Int) : matrix_Estimate c n p = some (EstF c n p) := by
  unfold matrix_Estimate EstF
  by_cases hk : EstOk c n p
  · rw [if_pos hk]
    obtain ⟨n1, n2, p1, p2, s1, s2, b1, b2⟩ := hk
    refine ite_of_f (by simp; omega) ?_
    obtain ⟨B, hB⟩ : ∃ B : Nat, c.fBytes = B := ⟨c.fBytes.toNat, by omega⟩
    obtain ⟨p, rfl⟩ : ∃ q : Nat, p = q := ⟨p.toNat, by omega⟩
    obtain ⟨n, rfl⟩ : ∃ q : Nat, n = q := ⟨n.toNat, by omega⟩
    rw [hB] at b1 b2 ⊢
    have hBp : B * p ≤ 1073741824 * 1099511627776 := Nat.mul_le_mul (by omega) (by omega)
    rw [u64_nat (by omega), u64_nat (by omega), u64_nat (by omega)]
    refine bind_of (mul64_eq (by omega) (by omega)) ?_
    have hd : ((B : Int) * (p : Int)) / (n : Int) = ((B * p / n : Nat) : Int) := by rw [← Int.natCast_mul]; rfl
    rw [hd]
    obtain ⟨hi, hhi⟩ : ∃ hi, hi = B * p / 18446744073709551616 := ⟨_, rfl⟩
    obtain ⟨lo, hlo⟩ : ∃ lo, lo = B * p % 18446744073709551616 := ⟨_, rfl⟩
    have hsplit : hi * 18446744073709551616 + lo = B * p := by rw [hhi, hlo]; exact Nat.div_add_mod' _ _
    have hlolt : lo < 18446744073709551616 := by rw [hlo]; exact Nat.mod_lt _ (by decide)
    rw [← hhi, ← hlo]
    clear hhi hlo
    by_cases hc : n ≤ hi
    · have hbig : 1125899906842624 < B * p / n := by
        have h1 : 18446744073709551616 ≤ B * p / n := by
          rw [Nat.le_div_iff_mul_le (by omega), ← hsplit]
          have := Nat.mul_le_mul_left 18446744073709551616 hc
          omega
        omega
      refine ite_of_t (by simp; omega) ?_
      rw [if_pos (by omega)]
    · refine ite_of_f (by simp; omega) ?_
      obtain ⟨r, hr, hr1⟩ := div64_eq (hi := hi) (lo := lo) (y := n) (by omega) (by omega) (by omega) hlolt
      refine bind_of hr ?_
      rw [hr1, hsplit]
      by_cases hbig : 1125899906842624 < B * p / n
      · refine ite_of_t (by simp; omega) ?_
        rw [if_pos (by omega)]
      · refine ite_of_f (by simp; omega) ?_
        have hnn : (0 : Int) ≤ ((B * p / n : Nat) : Int) := Int.natCast_nonneg _
        rw [if_neg (by omega), w64_id (by omega) (by omega)]
  · rw [if_neg hk]
    refine ite_of_t ?_ rfl
    cases hb : (((((((decide (n < (1 : Int))) || (decide ((1048576 : Int) < n))) || (decide (p < n))) || (decide ((1099511627776 : Int) < p))) || (decide (c.fSamples < (0 : Int)))) || (decide (n < c.fSamples))) || (decide (c.fBytes < (0 : Int)))) || (decide ((1073741824 : Int) < c.fBytes)) with
    | true => rfl
    | false =>
      simp only [Bool.or_eq_false_iff, decide_eq_false_iff_not] at hb
      exact (hk ⟨by omega, by omega, by omega, by omega, by omega, by omega, by omega, by omega⟩).elim
theorem ref_est (c : api_Cell) (n p : Int) : exchangepointref38_Estimate c n p = some (EstF c n p) := (est_eq c n p).trans (est_tot c n p)

noncomputable def ruleAt (turn : Int) (k : Nat) : api_Rule := api_Rule.mk ((k : Int) + 1) (101 + w64 ((k : Int) + turn) % 3) 0 [] [] [] 0 0
noncomputable def RulesL (turn : Int) : List api_Rule := (List.range 6).map (ruleAt turn)
theorem rules_eq (turn : Int) : exchangepointlaw38_rules turn = some (RulesL turn) := by
  refine Tot.eq ?_
  unfold exchangepointlaw38_rules
  refine Tot.bindRng 6 (fun k b => ((k : Int), b)) (fun k b => b = (List.range k).map (ruleAt turn)) (fun x => x = RulesL turn) ([] : List api_Rule) rfl rfl (fun k b hk hb => ?_) (fun b hb => ?_) (fun x hx => Tot.some hx)
  · subst hb
    unfold exchangepointlaw38_rules_L0
    refine Tot.iteT (by simp; omega) (Tot.bindOf (mod_eq _ 3 (by decide) (by decide)) (Tot.chk ?_ (Tot.step ((List.range (k + 1)).map (ruleAt turn)) ?_ rfl)))
    · refine decide_eq_true (show _ ≤ 4294967296 from ?_)
      simp
      omega
    · have h3 : 0 ≤ w64 ((k : Int) + turn) % 3 ∧ w64 ((k : Int) + turn) % 3 < 3 := emod_lt' _ (by decide)
      rw [w64_id (n := (k : Int) + 1) (by omega) (by omega), w64_id (n := 101 + _) (by omega) (by omega), List.range_succ, List.map_append]
      rfl
  · subst hb
    unfold exchangepointlaw38_rules_L0
    exact Tot.iteF (by simp) (Tot.last rfl)

end Go.Proofs.Ytpdfmjkfplgkfaa

/- Chapter 38 in plain Lean: math/bits.Div64 by small numbers. -/
import Derived.Test.YtpdfmjkfplgkfaaPureB
namespace Go.Proofs.Ytpdfmjkfplgkfaa
open Go Go.Vc

theorem tdiv_nat (a b : Nat) : Int.tdiv (a : Int) (b : Int) = ((a / b : Nat) : Int) := by
  rw [Int.tdiv_eq_ediv_of_nonneg (by omega)]; rfl
theorem u64_pos (n : Int) : 0 ≤ IntKind.u64.wrap n ∧ IntKind.u64.wrap n < 18446744073709551616 := by
  rw [IntKind.wrap_u64]; omega
theorem div64_L0 {lo y s : Nat} {q rh : Nat} (hq : q < 4294967296) (hand : bitI .and .u64 (shlI .u64 (y : Int) (IntKind.u64.wrap (s : Int))) (4294967295 : Int) = 0) : loop (bits_Div64_L0 (lo : Int) (y : Int) (s : Int)) ((q : Int), (rh : Int)) = some (q : Int) := by
  refine loop_out ?_
  unfold bits_Div64_L0
  simp only [hand, Int.mul_zero]
  rw [if_neg]
  have h1 := u64_pos (IntKind.u64.wrap ((4294967296 : Int) * (rh : Int)) + shrI .u64 (shlI .u64 (lo : Int) (IntKind.u64.wrap (s : Int))) 32)
  have h2 : IntKind.u64.wrap 0 = 0 := by rw [IntKind.wrap_u64]; rfl
  rw [h2]
  simp only [Bool.or_eq_true, decide_eq_true_eq]
  omega
theorem div64_L1 {lo y s : Nat} {q rh : Nat} (hq : q < 4294967296) (hand : bitI .and .u64 (shlI .u64 (y : Int) (IntKind.u64.wrap (s : Int))) (4294967295 : Int) = 0) : loop (bits_Div64_L1 (lo : Int) (y : Int) (s : Int)) ((rh : Int), (q : Int)) = some (q : Int) := by
  refine loop_out ?_
  unfold bits_Div64_L1
  simp only [hand, Int.mul_zero]
  rw [if_neg]
  have h1 := u64_pos (IntKind.u64.wrap ((4294967296 : Int) * (rh : Int)) + bitI .and .u64 (shlI .u64 (lo : Int) (IntKind.u64.wrap (s : Int))) 4294967295)
  have h2 : IntKind.u64.wrap 0 = 0 := by rw [IntKind.wrap_u64]; rfl
  rw [h2]
  simp only [Bool.or_eq_true, decide_eq_true_eq]
  omega

theorem wrap_sub {A U r : Nat} (h : U = A + r) (hr : r < 18446744073709551616) : IntKind.u64.wrap ((U : Int) - IntKind.u64.wrap (A : Int)) = (r : Int) := by
  rw [IntKind.wrap_u64, IntKind.wrap_u64]; omega
theorem wrap_T {A U w T : Nat} (h : U * 4294967296 + w = A + T) (hT : T < 18446744073709551616) : IntKind.u64.wrap (IntKind.u64.wrap (IntKind.u64.wrap ((U : Int) * (4294967296 : Int)) + (w : Int)) - IntKind.u64.wrap (A : Int)) = (T : Int) := by
  rw [IntKind.wrap_u64, IntKind.wrap_u64, IntKind.wrap_u64, IntKind.wrap_u64]; omega
theorem wrap_Q {a b : Nat} (ha : a < 4294967296) (hb : b < 4294967296) : IntKind.u64.wrap (IntKind.u64.wrap ((a : Int) * 4294967296) + (b : Int)) = ((a * 4294967296 + b : Nat) : Int) := by
  rw [IntKind.wrap_u64, IntKind.wrap_u64]; omega
theorem T_lt {rh yn V B M : Nat} (h : rh < yn) (hV : V < B) (hy : yn * B < M) : rh * B + V < M := by
  have h1 : (rh + 1) * B ≤ yn * B := Nat.mul_le_mul_right B h
  rw [Nat.add_mul, Nat.one_mul] at h1
  omega
theorem U_split {q yn r U w B : Nat} (h : U = q * yn + r) : U * B + w = q * (yn * B) + (r * B + w) := by
  rw [h, Nat.add_mul, Nat.mul_assoc, Nat.add_assoc]
theorem div64_eq {hi lo y : Nat} (h0 : 0 < y) (hy : y ≤ 1048576) (hhi : hi < y) (hlo : lo < 18446744073709551616) : Tot (bits_Div64 (hi : Int) (lo : Int) (y : Int)) fun r => r.1 = (((hi * 18446744073709551616 + lo) / y : Nat) : Int) := by
  unfold bits_Div64
  refine Tot.iteF (by simp; omega) (Tot.iteF (by simp; omega) (Tot.ite (fun hz => ?_) fun hz => ?_))
  · have hz' : hi = 0 := by simpa using hz
    subst hz'
    refine Tot.chk (by simp; omega) (Tot.chk (by simp; omega) (Tot.some ?_))
    simp only
    rw [tdiv_nat, u64_nat (Nat.lt_of_le_of_lt (Nat.div_le_self _ _) hlo), Nat.zero_mul, Nat.zero_add]
  · obtain ⟨n, hn, n0, n1, n2, n3⟩ := len64_eq h0 (by omega)
    have hlz : bits_LeadingZeros64 (y : Int) = some (((64 - n : Nat) : Int)) := by
      unfold bits_LeadingZeros64
      refine bind_of hn ?_
      rw [w64_id (by omega) (by omega)]
      congr 1
      omega
    refine Tot.bindOf hlz ?_
    have hs1 : 64 - n ≤ 63 := by omega
    have hs2 : 32 ≤ 64 - n := by omega
    have hYlt : y * 2 ^ (64 - n) < 18446744073709551616 := by
      have h1 : y * 2 ^ (64 - n) < 2 ^ n * 2 ^ (64 - n) := Nat.mul_lt_mul_of_pos_right n3 (Nat.pow_pos (by decide))
      rw [← Nat.pow_add, show n + (64 - n) = 64 from by omega] at h1
      exact h1
    generalize 64 - n = s at hs1 hs2 hYlt
    obtain ⟨yn1, U, un10, q1, rh, q0, r2, a1, a2, a3, a4, a5, a6, a7, a8, a9, a10, a11, a12, a13, a14, a15, a16⟩ := div_split h0 hs2 hs1 hYlt hhi hlo
    have hunlt : un10 < 18446744073709551616 := by rw [a5]; exact Nat.mod_lt _ (by decide)
    have hVlt : un10 / 4294967296 < 4294967296 := by rw [Nat.div_lt_iff_lt_mul (by decide)]; exact hunlt
    have hYlt' : yn1 * 4294967296 < 18446744073709551616 := by rw [← a1]; exact hYlt
    have hH : hi * 2 ^ s < 18446744073709551616 := by
      have h1 : hi * 2 ^ s ≤ U := by rw [a3]; exact Nat.le_add_right _ _
      exact Nat.lt_of_le_of_lt h1 (Nat.lt_trans a4 hYlt)
    have hT : rh * 4294967296 + un10 / 4294967296 < 18446744073709551616 := T_lt a14 hVlt hYlt'
    have hU1 : U * 4294967296 + un10 / 4294967296 = q1 * (yn1 * 4294967296) + (rh * 4294967296 + un10 / 4294967296) := U_split a13
    have g1 : IntKind.u64.wrap ((U : Int) - IntKind.u64.wrap ((q1 * yn1 : Nat) : Int)) = (rh : Int) := wrap_sub a13 (Nat.lt_trans (Nat.lt_of_lt_of_le a14 (Nat.le_mul_of_pos_right _ (by decide))) hYlt')
    have f_un1 : shrI .u64 (un10 : Int) 32 = ((un10 / 4294967296 : Nat) : Int) := shr32 _
    have f_yn1 : shrI .u64 ((yn1 * 4294967296 : Nat) : Int) 32 = (yn1 : Int) := by
      rw [shr32, Nat.mul_div_cancel _ (by decide)]
    have f_yn0 : bitI .and .u64 ((yn1 * 4294967296 : Nat) : Int) 4294967295 = 0 := by
      rw [and_mask hYlt', Nat.mul_mod_left]; rfl
    clear hVlt
    obtain ⟨V, hVe⟩ : ∃ V, V = un10 / 4294967296 := ⟨_, rfl⟩
    rw [← hVe] at a9 a15 hT hU1 f_un1
    obtain ⟨T, hTe⟩ : ∃ T, T = rh * 4294967296 + V := ⟨_, rfl⟩
    rw [← hTe] at a9 a15 hT hU1
    obtain ⟨Y, hYe⟩ : ∃ Y, Y = yn1 * 4294967296 := ⟨_, rfl⟩
    rw [← hYe] at a1 hU1 f_yn1 f_yn0 hYlt'
    have f_r8 : IntKind.u64.wrap (s : Int) = (s : Int) := u64_nat (by omega)
    have f_sub : IntKind.u64.wrap ((64 : Int) - (s : Int)) = ((64 - s : Nat) : Int) := by
      rw [show (64 : Int) - (s : Int) = ((64 - s : Nat) : Int) from by omega, u64_nat (by omega)]
    have f_Y : shlI .u64 (y : Int) (s : Int) = (Y : Int) := by
      rw [shl_nat _ _ (by omega), Nat.mod_eq_of_lt hYlt, a1]
    have hL : lo / 2 ^ (64 - s) < 2 ^ s := by
      rw [Nat.div_lt_iff_lt_mul (Nat.pow_pos (by decide)), ← Nat.pow_add, show s + (64 - s) = 64 from by omega]; exact hlo
    have f_hi : shlI .u64 (hi : Int) (s : Int) = ((hi * 2 ^ s : Nat) : Int) := by
      rw [shl_nat _ _ (by omega), Nat.mod_eq_of_lt hH]
    have f_lo : shrI .u64 (lo : Int) ((64 - s : Nat) : Int) = ((lo / 2 ^ (64 - s) : Nat) : Int) := shr_nat _ _ (by omega)
    have f_or : bitI .or .u64 ((hi * 2 ^ s : Nat) : Int) ((lo / 2 ^ (64 - s) : Nat) : Int) = (U : Int) := by
      rw [or_nat hH (Nat.lt_of_le_of_lt (Nat.div_le_self _ _) hlo), a3, Nat.mul_comm hi, ← Nat.two_pow_add_eq_or_of_lt hL]
    have f_lo2 : shlI .u64 (lo : Int) (s : Int) = (un10 : Int) := by rw [shl_nat _ _ (by omega), a5]
    have f_q1 : IntKind.u64.wrap (Int.tdiv (U : Int) (yn1 : Int)) = (q1 : Int) := by
      rw [tdiv_nat, ← a6, u64_nat (Nat.lt_trans a7 (by decide))]
    have f_rh : IntKind.u64.wrap ((U : Int) - IntKind.u64.wrap ((q1 : Int) * (yn1 : Int))) = (rh : Int) := by
      rw [← Int.natCast_mul]; exact g1
    have f_T : IntKind.u64.wrap (IntKind.u64.wrap (IntKind.u64.wrap ((U : Int) * (4294967296 : Int)) + (V : Int)) - IntKind.u64.wrap ((q1 : Int) * (Y : Int))) = (T : Int) := by
      rw [← Int.natCast_mul]
      exact wrap_T hU1 hT
    have f_q0 : IntKind.u64.wrap (Int.tdiv (T : Int) (yn1 : Int)) = (q0 : Int) := by
      rw [tdiv_nat, ← a9, u64_nat (Nat.lt_trans a10 (by decide))]
    have f_r2 : IntKind.u64.wrap ((T : Int) - IntKind.u64.wrap ((q0 : Int) * (yn1 : Int))) = (r2 : Int) := by
      rw [← Int.natCast_mul]
      exact wrap_sub a15 (Nat.lt_of_le_of_lt (by rw [a15]; exact Nat.le_add_left _ _) hT)
    have hand : bitI .and .u64 (shlI .u64 (y : Int) (IntKind.u64.wrap (s : Int))) (4294967295 : Int) = 0 := by rw [f_r8, f_Y, f_yn0]
    simp only [f_r8, f_sub, f_Y, f_yn1, f_hi, f_lo, f_or, f_lo2, f_un1, f_q1, f_rh]
    refine Tot.chk (by simp; omega) (Tot.bindOf (div64_L0 a7 hand) (Tot.chk (by simp; omega) ?_))
    simp only [f_T, f_q0, f_r2]
    refine Tot.bindOf (div64_L1 a10 hand) (Tot.some ?_)
    show IntKind.u64.wrap (IntKind.u64.wrap ((q1 : Int) * 4294967296) + (q0 : Int)) = _
    rw [a12]
    exact wrap_Q a7 a10

/-- what a cell stands for: the code's answer is the document's -/
theorem est_eq (c : api_Cell) (n p : Int) : exchangepointref38_Estimate c n p = matrix_Estimate c n p := rfl
end Go.Proofs.Ytpdfmjkfplgkfaa

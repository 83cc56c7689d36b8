/- Chapter 39, in plain Lean: what the printed functions answer. -/
import Derived.Test.YtjhjijcffgmpkaaFns
import Derived.Test.YtjhjijcffgmpkaaVcQ
namespace Go.Proofs.Ytjhjijcffgmpkaa
open Go Go.Vc
abbrev I64 (x : Int) : Prop := IntKind.i64.min ≤ x ∧ x ≤ IntKind.i64.max

theorem mod_eq (a m : Int) (hm : 0 < m) (hb : m ≤ 4611686018427387904) : exchangepointmill_Mod a m = some (a % m) := by
  obtain ⟨h0, h1⟩ := emod_lt' a hm
  unfold exchangepointmill_Mod
  refine chk_of (by simp; omega) ?_
  unfold jn
  rcases tmod_emod a hm with h | ⟨h, hn⟩
  · rw [h]
    exact ite_of_f (by simp; omega) rfl
  · rw [h]
    refine ite_of_t (by simp; omega) ?_
    rw [show a % m - m + m = a % m from by omega, w64_id (by omega) (by omega)]

-- numbers of sets
def C : Nat → Nat → Nat
  | _, 0 => 1
  | 0, _ + 1 => 0
  | n + 1, k + 1 => C n k + C n (k + 1)
theorem C_zero (n : Nat) : C n 0 = 1 := by cases n <;> rfl
theorem C_lt : ∀ (n k : Nat), n < k → C n k = 0
  | 0, k + 1, _ => rfl
  | n + 1, k + 1, h => by
    show C n k + C n (k + 1) = 0
    rw [C_lt n k (by omega), C_lt n (k + 1) (by omega)]
  | n, 0, h => by omega
theorem C_pos : ∀ (n k : Nat), k ≤ n → 0 < C n k
  | n, 0, _ => by rw [C_zero]; omega
  | 0, k + 1, h => by omega
  | n + 1, k + 1, h => by
    have := C_pos n k (by omega)
    show 0 < C n k + C n (k + 1)
    omega
theorem C_pow : ∀ (n k : Nat), C n k ≤ 2 ^ n
  | n, 0 => by rw [C_zero]; exact Nat.one_le_two_pow
  | 0, k + 1 => Nat.zero_le _
  | n + 1, k + 1 => by
    have h1 := C_pow n k
    have h2 := C_pow n (k + 1)
    show C n k + C n (k + 1) ≤ _
    rw [Nat.pow_succ]; omega
theorem pow60 {n : Nat} (h : n ≤ 60) : 2 ^ n ≤ 1152921504606846976 := Nat.pow_le_pow_right (n := 2) (by omega) h
def CI (n k : Int) : Int := if n < 0 ∨ k < 0 ∨ n < k then 0 else (C n.toNat k.toNat : Int)
theorem CI_nat (n k : Nat) : CI (n : Int) (k : Int) = (C n k : Int) := by
  unfold CI
  split
  · rename_i h
    rw [C_lt n k (by omega)]; rfl
  · simp

-- rows
def tb {α : Type} (n : Nat) (f : Nat → α) : List α := (List.range n).map f
theorem tb_get {α : Type} {n k : Nat} {f : Nat → α} (h : k < n) : (tb n f)[k]? = some (f k) := by simp [tb, h]
theorem tb_idx {α : Type} {n k : Nat} {f : Nat → α} (h : k < n) : idx (tb n f) (k : Int) = some (f k) := idx_get (tb_get h)
theorem tb_set {α : Type} {n : Nat} {f : Nat → α} (k : Nat) (v : α) : (tb n f).set k v = tb n (fun i => if i = k then v else f i) := by
  apply List.ext_getElem?
  intro i
  rw [List.getElem?_set]
  by_cases h : k = i
  · subst h
    by_cases hk : k < n <;> simp [tb, hk]
  · by_cases hi : i < n
    · simp [tb, h, hi, Ne.symm h]
    · simp [tb, h, hi]
theorem tb_congr {α : Type} {n : Nat} {f g : Nat → α} (h : ∀ i, i < n → f i = g i) : tb n f = tb n g := List.map_congr_left fun i hi => h i (List.mem_range.1 hi)
theorem tb_rep {α : Type} (n : Nat) (v : α) : List.replicate n v = tb n (fun _ => v) := by simp [tb, List.map_const']

def T : List (List Int) := tb 61 fun i => tb 61 fun c => (C i c : Int)
def U (n j i c : Nat) : Int := if i = n then (if c < j then (C n c : Int) else 0) else if i < n then (C i c : Int) else 0
def W (n i c : Nat) : Int := if i < n then (C i c : Int) else 0

theorem pascal_inner (n : Nat) (hn : n < 61) (t0 : List (List Int)) : loop (interval_pascal_L1 ((n : Int), t0)) ((1 : Int), tb 61 fun i => tb 61 (U n 1 i)) = some (tb 61 fun i => tb 61 (W (n + 1) i)) := by
  obtain ⟨x, hx, h⟩ := loop_meas (tb := interval_pascal_L1 ((n : Int), t0)) (fun s => ∃ j : Nat, 1 ≤ j ∧ j ≤ n + 1 ∧ s = ((j : Int), tb 61 fun i => tb 61 (U n j i))) (fun s => n + 1 - s.1.toNat) (fun x => x = tb 61 fun i => tb 61 (W (n + 1) i)) (by
    rintro s ⟨j, h1, h2, rfl⟩
    unfold interval_pascal_L1
    dsimp only
    by_cases hlt : j ≤ n
    · right
      obtain ⟨n, rfl⟩ : ∃ m, n = m + 1 := ⟨n - 1, by omega⟩
      obtain ⟨j, rfl⟩ : ∃ m, j = m + 1 := ⟨j - 1, by omega⟩
      have hn1 : w64 (((n + 1 : Nat) : Int) - 1) = (n : Int) := by rw [w64_id (by omega) (by omega)]; omega
      have hj1 : w64 (((j + 1 : Nat) : Int) - 1) = (j : Int) := by rw [w64_id (by omega) (by omega)]; omega
      refine ⟨(((j + 1 + 1 : Nat) : Int), tb 61 fun i => tb 61 (U (n + 1) (j + 1 + 1) i)), ⟨j + 1 + 1, by omega, by omega, rfl⟩, by simp; omega, ?_⟩
      refine ite_of_t (by simp; omega) ?_
      rw [hn1, hj1]
      refine chk_of (by simp; omega) ?_
      refine chk_of (by simp; omega) ?_
      refine bind_of (tb_idx (by omega)) ?_
      refine bind_of (tb_idx (by omega)) ?_
      refine chk_of (by simp; omega) ?_
      refine chk_of (by simp; omega) ?_
      refine bind_of (tb_idx (by omega)) ?_
      refine bind_of (tb_idx (by omega)) ?_
      refine chk_of (by simp; omega) ?_
      refine chk_of (by simp; omega) ?_
      refine bind_of (tb_idx (by omega)) ?_
      refine bind_of (tb_idx (by omega)) ?_
      have p1 := Nat.le_trans (C_pow n j) (pow60 (by omega))
      have p2 := Nat.le_trans (C_pow n (j + 1)) (pow60 (by omega))
      have e1 : U (n + 1) (j + 1) n j = (C n j : Int) := by simp [U]
      have e2 : U (n + 1) (j + 1) n (j + 1) = (C n (j + 1) : Int) := by simp [U]
      rw [e1, e2, w64_id (n := (C n j : Int) + (C n (j + 1) : Int)) (by omega) (by omega), w64_id (n := ((j + 1 : Nat) : Int) + 1) (by omega) (by omega), Int.toNat_natCast, Int.toNat_natCast, tb_set, tb_set]
      congr 3
      refine tb_congr fun i _ => ?_
      by_cases hi : i = n + 1
      · subst hi
        rw [if_pos rfl]
        refine tb_congr fun c _ => ?_
        by_cases hc : c = j + 1
        · subst hc
          simp [U, C]
        · rw [if_neg hc]
          simp only [U, if_true]
          by_cases hcj : c < j + 1
          · rw [if_pos hcj, if_pos (by omega)]
          · rw [if_neg hcj, if_neg (by omega)]
      · rw [if_neg hi]
        refine tb_congr fun c _ => ?_
        simp [U, hi]
    · left
      refine ⟨_, rfl, ite_of_f (by simp; omega) ?_⟩
      have : j = n + 1 := by omega
      subst this
      congr 2
      refine tb_congr fun i _ => tb_congr fun c _ => ?_
      simp only [U, W]
      by_cases hi : i = n
      · subst hi
        by_cases hc : c < i + 1
        · simp [hc]
        · simp [hc, C_lt i c (by omega)]
      · rw [if_neg hi]
        by_cases hlt : i < n
        · rw [if_pos hlt, if_pos (by omega)]
        · rw [if_neg hlt, if_neg (by omega)]) (s := ((1 : Int), tb 61 fun i => tb 61 (U n 1 i))) ⟨1, by omega, by omega, rfl⟩
  rw [h, hx]

theorem pascal_eq : interval_pascal = some T := by
  unfold interval_pascal
  obtain ⟨x, hx, h⟩ := loop_meas (tb := interval_pascal_L0) (fun s => ∃ n : Nat, n ≤ 61 ∧ s = ((n : Int), tb 61 fun i => tb 61 (W n i))) (fun s => 61 - s.1.toNat) (fun x => x = T) (by
    rintro s ⟨n, hn, rfl⟩
    unfold interval_pascal_L0
    dsimp only
    by_cases hlt : n < 61
    · right
      refine ⟨(((n + 1 : Nat) : Int), tb 61 fun i => tb 61 (W (n + 1) i)), ⟨n + 1, by omega, rfl⟩, by simp; omega, ?_⟩
      refine ite_of_t (by simp; omega) ?_
      refine chk_of (by simp; omega) ?_
      refine chk_of (by decide) ?_
      refine bind_of (tb_idx hlt) ?_
      refine bind_of (x := W n n 0) (by rfl) ?_
      have e : (tb 61 fun i => tb 61 (W n i)).set (n : Int).toNat ((tb 61 (W n n)).set 0 1) = tb 61 fun i => tb 61 (U n 1 i) := by
        rw [Int.toNat_natCast, tb_set, tb_set]
        refine tb_congr fun i _ => ?_
        by_cases hi : i = n
        · subst hi
          rw [if_pos rfl]
          refine tb_congr fun c _ => ?_
          by_cases hc : c = 0
          · subst hc; simp [U, C_zero]
          · rw [if_neg hc]
            simp [U, W, hc]
        · rw [if_neg hi]
          refine tb_congr fun c _ => ?_
          simp [U, W, hi]
      rw [e]
      refine bind_of (pascal_inner n hlt _) ?_
      rw [w64_id (by omega) (by omega)]
      rfl
    · left
      have : n = 61 := by omega
      subst this
      refine ⟨_, rfl, ite_of_f (by decide) ?_⟩
      congr 2) (s := ((0 : Int), List.replicate 61 (List.replicate 61 (0 : Int)))) ⟨0, by omega, by
      rw [tb_rep 61 (0 : Int), tb_rep]
      refine Prod.ext rfl ?_
      exact tb_congr fun i _ => tb_congr fun c _ => by simp [W]⟩
  subst hx
  exact bind_of h rfl

theorem tri_choose (n k : Int) (h : n ≤ 60) : interval_triangle_choose T n k = some (CI n k, T) := by
  unfold interval_triangle_choose
  by_cases hc : n < 0 ∨ k < 0 ∨ n < k
  · refine ite_of_t (by simp; omega) ?_
    rw [CI, if_pos hc]
  · refine ite_of_f (by simp; omega) ?_
    refine chk_of (by simp; omega) ?_
    refine chk_of (by simp; omega) ?_
    obtain ⟨n, rfl⟩ : ∃ m : Nat, n = m := ⟨n.toNat, by omega⟩
    obtain ⟨k, rfl⟩ : ∃ m : Nat, k = m := ⟨k.toNat, by omega⟩
    refine bind_of (tb_idx (by omega)) ?_
    refine bind_of (tb_idx (by omega)) ?_
    rw [CI_nat]

theorem ref_inner (n i : Nat) (h1 : 1 ≤ i) (h2 : i ≤ n) (hn : n ≤ 60) : loop exchangepointref39_choose_L1 ((i : Int), tb (n + 2) fun c => (C (i - 1) c : Int)) = some (tb (n + 2) fun c => (C i c : Int)) := by
  obtain ⟨i, rfl⟩ : ∃ m, i = m + 1 := ⟨i - 1, by omega⟩
  obtain ⟨x, hx, h⟩ := loop_meas (tb := exchangepointref39_choose_L1) (fun s => ∃ j : Nat, j ≤ i + 1 ∧ s = ((j : Int), tb (n + 2) fun c => if c > j then (C (i + 1) c : Int) else (C i c : Int))) (fun s => s.1.toNat) (fun x => x = tb (n + 2) fun c => (C (i + 1) c : Int)) (by
    rintro s ⟨j, hj, rfl⟩
    unfold exchangepointref39_choose_L1
    dsimp only
    by_cases h0 : 0 < j
    · right
      obtain ⟨j, rfl⟩ : ∃ m, j = m + 1 := ⟨j - 1, by omega⟩
      have hj1 : w64 (((j + 1 : Nat) : Int) - 1) = (j : Int) := by rw [w64_id (by omega) (by omega)]; omega
      refine ⟨((j : Int), tb (n + 2) fun c => if c > j then (C (i + 1) c : Int) else (C i c : Int)), ⟨j, by omega, rfl⟩, by simp, ?_⟩
      refine ite_of_t (by simp) ?_
      rw [hj1]
      refine bind_of (tb_idx (by omega)) ?_
      refine bind_of (tb_idx (by omega)) ?_
      refine bind_of (tb_idx (by omega)) ?_
      refine bind_of (tb_idx (by omega)) ?_
      refine bind_of (tb_idx (by omega)) ?_
      refine bind_of (tb_idx (by omega)) ?_
      have p1 := Nat.le_trans (C_pow i j) (pow60 (by omega))
      have p2 := Nat.le_trans (C_pow i (j + 1)) (pow60 (by omega))
      rw [if_neg (by omega), if_neg (by omega), w64_id (by omega) (by omega), Int.toNat_natCast, tb_set]
      congr 3
      refine tb_congr fun c _ => ?_
      by_cases hc : c = j + 1
      · subst hc
        rw [if_pos rfl, if_pos (by omega)]
        show _ = ((C i j + C i (j + 1) : Nat) : Int)
        omega
      · rw [if_neg hc]
        by_cases hcj : c > j
        · rw [if_pos hcj, if_pos (by omega)]
        · rw [if_neg hcj, if_neg (by omega)]
    · left
      have : j = 0 := by omega
      subst this
      refine ⟨_, rfl, ite_of_f (by simp) ?_⟩
      congr 2
      refine tb_congr fun c _ => ?_
      cases c with
      | zero => simp [C_zero]
      | succ c => simp) (s := (((i + 1 : Nat) : Int), tb (n + 2) fun c => (C (i + 1 - 1) c : Int))) ⟨i + 1, by omega, by
      refine Prod.ext rfl (tb_congr fun c _ => ?_)
      by_cases hc : c > i + 1
      · rw [if_pos hc, C_lt _ _ hc, C_lt _ _ (by omega)]
      · rw [if_neg hc]; rfl⟩
  rw [h, hx]

theorem ref_choose (n k : Int) (h : n ≤ 60) : exchangepointref39_choose n k = some (CI n k) := by
  unfold exchangepointref39_choose
  by_cases hc : k < 0 ∨ n < k
  · refine ite_of_t (by simp; omega) ?_
    rw [CI, if_pos (by omega)]
  · refine ite_of_f (by simp; omega) ?_
    obtain ⟨n, rfl⟩ : ∃ m : Nat, n = m := ⟨n.toNat, by omega⟩
    obtain ⟨k, rfl⟩ : ∃ m : Nat, k = m := ⟨k.toNat, by omega⟩
    have hlim : (LIM : Int) = 4294967296 := rfl
    rw [w64_id (n := (n : Int) + 2) (by omega) (by omega)]
    refine chk_of (by simp only [Bool.and_eq_true, decide_eq_true_eq]; omega) ?_
    have hr : List.replicate ((n : Int) + 2).toNat (0 : Int) = tb (n + 2) fun _ => 0 := by
      rw [show ((n : Int) + 2).toNat = n + 2 from by omega, tb_rep]
    rw [hr]
    refine bind_of (tb_idx (k := 0) (by omega)) ?_
    refine bind_of (tb_idx (k := 0) (by omega)) ?_
    obtain ⟨x, hx, h⟩ := loop_meas (tb := exchangepointref39_choose_L0 (n : Int)) (fun s => ∃ i : Nat, 1 ≤ i ∧ i ≤ n + 1 ∧ s = ((i : Int), tb (n + 2) fun c => (C (i - 1) c : Int))) (fun s => n + 1 - s.1.toNat) (fun x => x = tb (n + 2) fun c => (C n c : Int)) (by
      rintro s ⟨i, h1, h2, rfl⟩
      unfold exchangepointref39_choose_L0
      dsimp only
      by_cases hlt : i ≤ n
      · right
        refine ⟨(((i + 1 : Nat) : Int), tb (n + 2) fun c => (C (i + 1 - 1) c : Int)), ⟨i + 1, by omega, by omega, rfl⟩, by simp; omega, ?_⟩
        refine ite_of_t (by simp; omega) ?_
        refine bind_of (ref_inner n i h1 hlt (by omega)) ?_
        rw [w64_id (by omega) (by omega)]
        rfl
      · left
        have : i = n + 1 := by omega
        subst this
        exact ⟨_, rfl, ite_of_f (by simp; omega) rfl⟩) (s := ((1 : Int), (tb (n + 2) fun _ => (0 : Int)).set 0 1)) ⟨1, by omega, by omega, by
        rw [tb_set]
        refine Prod.ext rfl (tb_congr fun c _ => ?_)
        cases c with
        | zero => rfl
        | succ c => rfl⟩
    subst hx
    refine bind_of h ?_
    refine bind_of (tb_idx (by omega)) ?_
    refine bind_of (tb_idx (by omega)) ?_
    rw [CI_nat]
-- sums
def S (f : Nat → Nat) : Nat → Nat
  | 0 => 0
  | n + 1 => S f n + f n
theorem S_congr {f g : Nat → Nat} : ∀ (n : Nat), (∀ i, i < n → f i = g i) → S f n = S g n
  | 0, _ => rfl
  | n + 1, h => by
    show S f n + f n = S g n + g n
    rw [S_congr n fun i hi => h i (by omega), h n (by omega)]
theorem S_le {f g : Nat → Nat} : ∀ (n : Nat), (∀ i, i < n → f i ≤ g i) → S f n ≤ S g n
  | 0, _ => Nat.le_refl _
  | n + 1, h => by
    have h1 := S_le n fun i hi => h i (by omega)
    have h2 := h n (by omega)
    show S f n + f n ≤ S g n + g n
    omega
theorem S_mono (f : Nat → Nat) {m n : Nat} (h : m ≤ n) : S f m ≤ S f n := by
  induction n with
  | zero => rw [Nat.le_zero.1 h]; exact Nat.le_refl _
  | succ n ih =>
    rcases Nat.lt_or_ge n m with h1 | h1
    · rw [show m = n + 1 from by omega]; exact Nat.le_refl _
    · have := ih h1
      show _ ≤ S f n + f n
      omega
theorem S_zero {f : Nat → Nat} (n : Nat) (h : ∀ i, i < n → f i = 0) : S f n = 0 := by
  induction n with
  | zero => rfl
  | succ n ih =>
    show S f n + f n = 0
    rw [ih fun i hi => h i (by omega), h n (by omega)]
theorem S_tail {f : Nat → Nat} {m n : Nat} (h : m ≤ n) (hz : ∀ i, m ≤ i → i < n → f i = 0) : S f n = S f m := by
  induction n with
  | zero => rw [Nat.le_zero.1 h]
  | succ n ih =>
    rcases Nat.lt_or_ge n m with h1 | h1
    · rw [show m = n + 1 from by omega]
    · show S f n + f n = _
      rw [ih h1 fun i hi hn => hz i hi (by omega), hz n h1 (by omega)]; rfl
theorem S_first (f : Nat → Nat) : ∀ (n : Nat), S f (n + 1) = f 0 + S (fun i => f (i + 1)) n
  | 0 => by simp [S]
  | n + 1 => by
    show S f (n + 1) + f (n + 1) = f 0 + (S (fun i => f (i + 1)) n + f (n + 1))
    rw [S_first f n]; omega
theorem S_add (f g : Nat → Nat) : ∀ (n : Nat), S (fun i => f i + g i) n = S f n + S g n
  | 0 => rfl
  | n + 1 => by
    show S (fun i => f i + g i) n + (f n + g n) = (S f n + f n) + (S g n + g n)
    rw [S_add f g n]; omega

/-- j of M and D - j of N -/
theorem vander (N : Nat) : ∀ (M D : Nat), S (fun j => C M j * C N (D - j)) (D + 1) = C (M + N) D
  | 0, D => by
    rw [S_first, S_zero D fun i _ => by show C 0 (i + 1) * _ = 0; simp [C]]
    simp [C_zero]
  | M + 1, 0 => by simp [S, C_zero]
  | M + 1, D + 1 => by
    rw [S_first]
    have e : S (fun i => C (M + 1) (i + 1) * C N (D + 1 - (i + 1))) (D + 1) = S (fun i => C M i * C N (D - i)) (D + 1) + S (fun i => C M (i + 1) * C N (D + 1 - (i + 1))) (D + 1) := by
      rw [← S_add]
      refine S_congr _ fun i _ => ?_
      show (C M i + C M (i + 1)) * C N (D + 1 - (i + 1)) = _
      rw [Nat.add_mul, Nat.add_sub_add_right]
    have h1 := vander N M D
    have h2 := vander N M (D + 1)
    rw [S_first] at h2
    rw [e, h1, show M + 1 + N = M + N + 1 from by omega]
    show _ = C (M + N) D + C (M + N) (D + 1)
    rw [← h2]
    simp only [C_zero]
    omega

/-- sets with j marked things -/
def EN (P D M j : Nat) : Nat := C M j * C (P - M) (D - j)
theorem EN_sum {P D M : Nat} (h : M ≤ P) : S (EN P D M) (D + 1) = C P D := by
  have := vander (P - M) M D
  rw [show M + (P - M) = P from by omega] at this
  exact this
theorem EN_le {P D M : Nat} (h : M ≤ P) (hP : P ≤ 60) (j : Nat) : EN P D M j ≤ 1152921504606846976 := by
  have h1 := Nat.mul_le_mul (C_pow M j) (C_pow (P - M) (D - j))
  rw [← Nat.pow_add, show M + (P - M) = P from by omega] at h1
  exact Nat.le_trans h1 (pow60 hP)
theorem CP_le {P D : Nat} (hP : P ≤ 60) : C P D ≤ 1152921504606846976 := Nat.le_trans (C_pow P D) (pow60 hP)

section
variable {P D M : Nat} (hP : P ≤ 60) (hD : D ≤ P) (hM : M ≤ P)
include hP hD hM
theorem tri_exactly {j : Nat} (hj : j ≤ D) : interval_triangle_exactly T P D M j = some ((EN P D M j : Int), T) := by
  unfold interval_triangle_exactly
  refine bind_of (tri_choose _ _ (by omega)) ?_
  have e1 : w64 ((P : Int) - M) = ((P - M : Nat) : Int) := by rw [w64_id (by omega) (by omega)]; omega
  have e2 : w64 ((D : Int) - j) = ((D - j : Nat) : Int) := by rw [w64_id (by omega) (by omega)]; omega
  rw [e1, e2]
  refine bind_of (tri_choose _ _ (by omega)) ?_
  have hb := EN_le (D := D) hM hP j
  have e3 : CI (M : Int) (j : Int) * CI ((P - M : Nat) : Int) ((D - j : Nat) : Int) = (EN P D M j : Int) := by rw [CI_nat, CI_nat, EN, Int.natCast_mul]
  show some (w64 (CI (M : Int) (j : Int) * CI ((P - M : Nat) : Int) ((D - j : Nat) : Int)), T) = _
  rw [e3, w64_id (by omega) (by omega)]
theorem ref_exactly {j : Nat} (hj : j ≤ D) : exchangepointref39_exactly P D M j = some (EN P D M j : Int) := by
  unfold exchangepointref39_exactly
  refine bind_of (ref_choose _ _ (by omega)) ?_
  have e1 : w64 ((P : Int) - M) = ((P - M : Nat) : Int) := by rw [w64_id (by omega) (by omega)]; omega
  have e2 : w64 ((D : Int) - j) = ((D - j : Nat) : Int) := by rw [w64_id (by omega) (by omega)]; omega
  rw [e1, e2]
  refine bind_of (ref_choose _ _ (by omega)) ?_
  have hb := EN_le (D := D) hM hP j
  have e3 : CI (M : Int) (j : Int) * CI ((P - M : Nat) : Int) ((D - j : Nat) : Int) = (EN P D M j : Int) := by rw [CI_nat, CI_nat, EN, Int.natCast_mul]
  rw [e3, w64_id (by omega) (by omega)]
end

def fa (P D M : Nat) (k : Int) (j : Nat) : Nat := if k ≤ (j : Int) then EN P D M j else 0
def fb (P D M : Nat) (k : Int) (j : Nat) : Nat := if (j : Int) ≤ k then EN P D M j else 0
def AL (P D M : Nat) (k : Int) : Nat := S (fa P D M k) (D + 1)
def AM (P D M : Nat) (k : Int) : Nat := S (fb P D M k) (D + 1)
section
variable {P D M : Nat} (hP : P ≤ 60) (hD : D ≤ P) (hM : M ≤ P)
include hP hM
theorem fa_le (k : Int) {j : Nat} (hj : j ≤ D + 1) : S (fa P D M k) j ≤ 1152921504606846976 := by
  have h1 : S (fa P D M k) j ≤ S (EN P D M) j := S_le j fun i _ => by unfold fa; split <;> omega
  have h2 := S_mono (EN P D M) hj
  rw [EN_sum hM] at h2
  have := CP_le (P := P) (D := D) hP
  omega
theorem fb_le (k : Int) {j : Nat} (hj : j ≤ D + 1) : S (fb P D M k) j ≤ 1152921504606846976 := by
  have h1 : S (fb P D M k) j ≤ S (EN P D M) j := S_le j fun i _ => by unfold fb; split <;> omega
  have h2 := S_mono (EN P D M) hj
  rw [EN_sum hM] at h2
  have := CP_le (P := P) (D := D) hP
  omega
include hD
theorem tails_eq (k : Int) : interval_triangle_tails T P D M k = some ((AL P D M k : Int), (AM P D M k : Int), T) := by
  unfold interval_triangle_tails
  obtain ⟨x, hx, h⟩ := loop_meas (tb := interval_triangle_tails_L0 P D M k) (fun s => ∃ j : Nat, j ≤ D + 1 ∧ s = ((S (fa P D M k) j : Int), (S (fb P D M k) j : Int), (j : Int), T)) (fun s => D + 1 - s.2.2.1.toNat) (fun x => x = ((AL P D M k : Int), (AM P D M k : Int), T)) (by
    rintro s ⟨j, hj, rfl⟩
    unfold interval_triangle_tails_L0
    dsimp only
    by_cases hlt : j ≤ D
    · right
      refine ⟨((S (fa P D M k) (j + 1) : Int), (S (fb P D M k) (j + 1) : Int), ((j + 1 : Nat) : Int), T), ⟨j + 1, by omega, rfl⟩, by simp; omega, ?_⟩
      refine ite_of_t (by simp; omega) ?_
      refine bind_of (tri_exactly hP hD hM hlt) ?_
      have b1 := fa_le hP hM k (show j + 1 ≤ D + 1 from by omega)
      have b2 := fb_le hP hM k (show j + 1 ≤ D + 1 from by omega)
      have s1 : S (fa P D M k) (j + 1) = S (fa P D M k) j + fa P D M k j := rfl
      have s2 : S (fb P D M k) (j + 1) = S (fb P D M k) j + fb P D M k j := rfl
      rw [s1, s2]
      rw [s1] at b1
      rw [s2] at b2
      unfold jn
      have hj1 : w64 ((j : Int) + 1) = ((j + 1 : Nat) : Int) := by rw [w64_id (by omega) (by omega)]; rfl
      dsimp only
      rw [hj1]
      generalize S (fa P D M k) j = A at *
      generalize S (fb P D M k) j = B at *
      by_cases c1 : k ≤ (j : Int)
      · refine ite_of_t (by simpa using c1) ?_
        have f1 : fa P D M k j = EN P D M j := if_pos c1
        rw [f1] at b1 ⊢
        by_cases c2 : (j : Int) ≤ k
        · refine ite_of_t (by simpa using c2) ?_
          have f2 : fb P D M k j = EN P D M j := if_pos c2
          rw [f2] at b2 ⊢
          rw [w64_id (by omega) (by omega), w64_id (by omega) (by omega)]
          rfl
        · refine ite_of_f (by simpa using c2) ?_
          have f2 : fb P D M k j = 0 := if_neg c2
          rw [f2, w64_id (by omega) (by omega)]
          rfl
      · refine ite_of_f (by simpa using c1) ?_
        have f1 : fa P D M k j = 0 := if_neg c1
        rw [f1]
        by_cases c2 : (j : Int) ≤ k
        · refine ite_of_t (by simpa using c2) ?_
          have f2 : fb P D M k j = EN P D M j := if_pos c2
          rw [f2] at b2 ⊢
          rw [w64_id (by omega) (by omega)]
          rfl
        · exact absurd (show (j : Int) ≤ k from by omega) c2
    · left
      have : j = D + 1 := by omega
      subst this
      exact ⟨_, rfl, ite_of_f (by simp; omega) rfl⟩) (s := ((0 : Int), (0 : Int), (0 : Int), T)) ⟨0, by omega, rfl⟩
  subst hx
  exact bind_of h rfl

theorem int_atLeast (k : Int) : interval_AtLeast P D M k = some ((AL P D M k : Int), 0) := by
  unfold interval_AtLeast
  refine bind_of (x := true) (by unfold interval_valid; simp; omega) ?_
  refine ite_of_f (by rfl) ?_
  refine bind_of pascal_eq ?_
  exact bind_of (tails_eq hP hD hM k) rfl
theorem int_atMost (k : Int) : interval_AtMost P D M k = some ((AM P D M k : Int), 0) := by
  unfold interval_AtMost
  refine bind_of (x := true) (by unfold interval_valid; simp; omega) ?_
  refine ite_of_f (by rfl) ?_
  refine bind_of pascal_eq ?_
  exact bind_of (tails_eq hP hD hM k) rfl
theorem ref_atLeast (k : Int) : exchangepointref39_AtLeast P D M k = some ((AL P D M k : Int), 0) := by
  unfold exchangepointref39_AtLeast
  refine bind_of (x := false) (by unfold exchangepointref39_bad; simp; omega) ?_
  refine ite_of_f (by rfl) ?_
  obtain ⟨K, hK⟩ : ∃ K : Nat, maxI k 0 = K := ⟨(maxI k 0).toNat, by unfold maxI; split <;> omega⟩
  have hk : k ≤ K := by rw [← hK]; unfold maxI; split <;> omega
  have hlow : ∀ i : Nat, i < K → fa P D M k i = 0 := by
    intro i hi
    refine if_neg ?_
    have : maxI k 0 = K := hK
    unfold maxI at this
    split at this <;> omega
  rw [hK]
  obtain ⟨x, hx, h⟩ := loop_meas (tb := exchangepointref39_AtLeast_L0 P D M) (fun s => ∃ i : Nat, K ≤ i ∧ (i ≤ D + 1 ∨ i = K) ∧ s = ((S (fa P D M k) i : Int), (i : Int))) (fun s => D + 1 - s.2.toNat) (fun x => x = (AL P D M k : Int)) (by
    rintro s ⟨i, h1, h2, rfl⟩
    unfold exchangepointref39_AtLeast_L0
    dsimp only
    by_cases hlt : i ≤ D
    · right
      refine ⟨((S (fa P D M k) (i + 1) : Int), ((i + 1 : Nat) : Int)), ⟨i + 1, by omega, .inl (by omega), rfl⟩, by simp; omega, ?_⟩
      refine ite_of_t (by simp; omega) ?_
      refine bind_of (ref_exactly hP hD hM hlt) ?_
      have b1 := fa_le hP hM k (show i + 1 ≤ D + 1 from by omega)
      have s1 : S (fa P D M k) (i + 1) = S (fa P D M k) i + EN P D M i := by
        show _ + fa P D M k i = _
        rw [show fa P D M k i = EN P D M i from if_pos (by omega)]
      rw [s1] at b1 ⊢
      rw [w64_id (n := (S (fa P D M k) i : Int) + (EN P D M i : Int)) (by omega) (by omega), w64_id (by omega) (by omega)]
      rfl
    · left
      refine ⟨_, rfl, ite_of_f (by simp; omega) ?_⟩
      congr 2
      unfold AL
      rcases h2 with h2 | h2
      · rw [show i = D + 1 from by omega]
      · subst h2
        rw [S_zero i hlow, S_zero (D + 1) fun j hj => hlow j (by omega)]) (s := ((0 : Int), (K : Int))) ⟨K, Nat.le_refl _, .inr rfl, by rw [S_zero K hlow]; rfl⟩
  subst hx
  exact bind_of h rfl
theorem ref_atMost (k : Int) : exchangepointref39_AtMost P D M k = some ((AM P D M k : Int), 0) := by
  unfold exchangepointref39_AtMost
  refine bind_of (x := false) (by unfold exchangepointref39_bad; simp; omega) ?_
  refine ite_of_f (by rfl) ?_
  obtain ⟨x, hx, h⟩ := loop_meas (tb := exchangepointref39_AtMost_L0 P D M k) (fun s => ∃ i : Nat, i ≤ D + 1 ∧ s = ((S (fb P D M k) i : Int), (i : Int))) (fun s => D + 1 - s.2.toNat) (fun x => x = (AM P D M k : Int)) (by
    rintro s ⟨i, h1, rfl⟩
    unfold exchangepointref39_AtMost_L0
    dsimp only
    have hmin : (i : Int) ≤ minI k D ↔ (i : Int) ≤ k ∧ i ≤ D := by unfold minI; split <;> omega
    by_cases hlt : (i : Int) ≤ k ∧ i ≤ D
    · right
      refine ⟨((S (fb P D M k) (i + 1) : Int), ((i + 1 : Nat) : Int)), ⟨i + 1, by omega, rfl⟩, by simp; omega, ?_⟩
      refine ite_of_t (by simp only [decide_eq_true_eq]; exact hmin.2 hlt) ?_
      refine bind_of (ref_exactly hP hD hM hlt.2) ?_
      have b1 := fb_le hP hM k (show i + 1 ≤ D + 1 from by omega)
      have s1 : S (fb P D M k) (i + 1) = S (fb P D M k) i + EN P D M i := by
        show _ + fb P D M k i = _
        rw [show fb P D M k i = EN P D M i from if_pos hlt.1]
      rw [s1] at b1 ⊢
      rw [w64_id (n := (S (fb P D M k) i : Int) + (EN P D M i : Int)) (by omega) (by omega), w64_id (by omega) (by omega)]
      rfl
    · left
      refine ⟨_, rfl, ite_of_f (by simp only [decide_eq_false_iff_not]; exact fun e => hlt (hmin.1 e)) ?_⟩
      congr 2
      unfold AM
      rw [S_tail (f := fb P D M k) h1 fun j hj hj' => if_neg (by omega)]) (s := ((0 : Int), (0 : Int))) ⟨0, by omega, rfl⟩
  subst hx
  exact bind_of h rfl
end
theorem int_choose_any (n k : Int) : interval_Choose n k = some (if n < 0 ∨ 60 < n ∨ k < 0 ∨ n < k then (0, 1) else (CI n k, 0)) := by
  unfold interval_Choose
  by_cases h : n < 0 ∨ 60 < n ∨ k < 0 ∨ n < k
  · rw [if_pos h]
    exact ite_of_t (by simp; omega) rfl
  · rw [if_neg h]
    refine ite_of_f (by simp; omega) ?_
    refine bind_of pascal_eq ?_
    exact bind_of (tri_choose n k (by omega)) rfl
theorem int_choose_nat {n k : Nat} (h : n ≤ 60) (hk : k ≤ n) : interval_Choose n k = some ((C n k : Int), 0) := by
  rw [int_choose_any, if_neg (by omega), CI_nat]
theorem ref_choose_any (n k : Int) : exchangepointref39_Choose n k = some (if n < 0 ∨ 60 < n ∨ k < 0 ∨ n < k then (0, 1) else (CI n k, 0)) := by
  unfold exchangepointref39_Choose
  by_cases h : n < 0 ∨ 60 < n ∨ k < 0 ∨ n < k
  · rw [if_pos h]
    exact ite_of_t (by simp; omega) rfl
  · rw [if_neg h]
    refine ite_of_f (by simp; omega) ?_
    exact bind_of (ref_choose n k (by omega)) rfl
theorem atLeast_any (p d m k : Int) : ∃ x, interval_AtLeast p d m k = some x ∧ exchangepointref39_AtLeast p d m k = some x := by
  by_cases h : 0 ≤ p ∧ p ≤ 60 ∧ 0 ≤ d ∧ d ≤ p ∧ 0 ≤ m ∧ m ≤ p
  · obtain ⟨P, rfl⟩ : ∃ P : Nat, p = P := ⟨p.toNat, by omega⟩
    obtain ⟨D, rfl⟩ : ∃ D : Nat, d = D := ⟨d.toNat, by omega⟩
    obtain ⟨M, rfl⟩ : ∃ M : Nat, m = M := ⟨m.toNat, by omega⟩
    exact ⟨_, int_atLeast (by omega) (by omega) (by omega) k, ref_atLeast (by omega) (by omega) (by omega) k⟩
  · refine ⟨(0, 1), ?_, ?_⟩
    · unfold interval_AtLeast
      refine bind_of (x := false) (by unfold interval_valid; simp; omega) ?_
      exact ite_of_t (by rfl) rfl
    · unfold exchangepointref39_AtLeast
      refine bind_of (x := true) (by unfold exchangepointref39_bad; simp; omega) ?_
      exact ite_of_t (by rfl) rfl
theorem atMost_any (p d m k : Int) : ∃ x, interval_AtMost p d m k = some x ∧ exchangepointref39_AtMost p d m k = some x := by
  by_cases h : 0 ≤ p ∧ p ≤ 60 ∧ 0 ≤ d ∧ d ≤ p ∧ 0 ≤ m ∧ m ≤ p
  · obtain ⟨P, rfl⟩ : ∃ P : Nat, p = P := ⟨p.toNat, by omega⟩
    obtain ⟨D, rfl⟩ : ∃ D : Nat, d = D := ⟨d.toNat, by omega⟩
    obtain ⟨M, rfl⟩ : ∃ M : Nat, m = M := ⟨m.toNat, by omega⟩
    exact ⟨_, int_atMost (by omega) (by omega) (by omega) k, ref_atMost (by omega) (by omega) (by omega) k⟩
  · refine ⟨(0, 1), ?_, ?_⟩
    · unfold interval_AtMost
      refine bind_of (x := false) (by unfold interval_valid; simp; omega) ?_
      exact ite_of_t (by rfl) rfl
    · unfold exchangepointref39_AtMost
      refine bind_of (x := true) (by unfold exchangepointref39_bad; simp; omega) ?_
      exact ite_of_t (by rfl) rfl

theorem awake_eq : exchangepointlaw39_awake = some true := by
  unfold exchangepointlaw39_awake
  refine bind_of (int_choose_any 5 2) ?_
  refine bind_of (int_atLeast (P := 4) (D := 2) (M := 2) (by omega) (by omega) (by omega) 1) ?_
  rfl

theorem counts_eq (a0 : Int) (_ : I64 a0) (a1 : Int) (_ : I64 a1) (a2 : Int) (_ : I64 a2) (a3 : Int) (_ : I64 a3) : exchangepointlaw39_IntervalCounts a0 a1 a2 a3 = some true := by
  unfold exchangepointlaw39_IntervalCounts
  obtain ⟨p0, p1⟩ := emod_lt' a0 (m := 61) (by omega)
  refine bind_of (mod_eq a0 61 (by omega) (by omega)) ?_
  generalize a0 % 61 = R1 at *
  rw [w64_id (n := R1 + 1) (by omega) (by omega), w64_id (n := R1 + 4) (by omega) (by omega)]
  refine bind_of (mod_eq a1 (R1 + 1) (by omega) (by omega)) ?_
  refine bind_of (mod_eq a2 (R1 + 1) (by omega) (by omega)) ?_
  refine bind_of (mod_eq a3 (R1 + 4) (by omega) (by omega)) ?_
  refine bind_of (mod_eq a0 64 (by omega) (by omega)) ?_
  refine bind_of (mod_eq a1 64 (by omega) (by omega)) ?_
  refine bind_of (mod_eq a2 64 (by omega) (by omega)) ?_
  generalize a1 % (R1 + 1) = R2
  generalize a2 % (R1 + 1) = R3
  generalize a3 % (R1 + 4) = R4
  generalize a0 % 64 = R5
  generalize a1 % 64 = R6
  generalize a2 % 64 = R7
  have step : ∀ (i : Nat) (n k m t : Int), i < 3 → ([([a0, a1, a2, a3] : List Int), ([R1, R2, R3, (w64 (R4 - (2 : Int)))] : List Int), ([(w64 (R5 - (2 : Int))), (w64 (R6 - (2 : Int))), (w64 (R7 - (2 : Int))), a3] : List Int)] : List (List Int))[i]? = some [n, k, m, t] →
      exchangepointlaw39_IntervalCounts_L0 a0 a1 a2 a3 R1 R2 R3 R4 R5 R6 R7 (i : Int) = some (.inr ((i + 1 : Nat) : Int)) := by
    intro i n k m t hi hg
    obtain ⟨x, e1, e2⟩ := atLeast_any n k m t
    obtain ⟨y, e3, e4⟩ := atMost_any n k m t
    unfold exchangepointlaw39_IntervalCounts_L0
    refine ite_of_t (by simp; omega) ?_
    refine bind_of (idx_get hg) ?_
    refine bind_of (x := n) rfl ?_
    refine bind_of (x := k) rfl ?_
    refine bind_of (int_choose_any n k) ?_
    refine bind_of (x := n) rfl ?_
    refine bind_of (x := k) rfl ?_
    refine bind_of (ref_choose_any n k) ?_
    refine bind_of (x := n) rfl ?_
    refine bind_of (x := k) rfl ?_
    refine bind_of (x := m) rfl ?_
    refine bind_of (x := t) rfl ?_
    refine bind_of e1 ?_
    refine bind_of (x := n) rfl ?_
    refine bind_of (x := k) rfl ?_
    refine bind_of (x := m) rfl ?_
    refine bind_of (x := t) rfl ?_
    refine bind_of e2 ?_
    refine bind_of (x := n) rfl ?_
    refine bind_of (x := k) rfl ?_
    refine bind_of (x := m) rfl ?_
    refine bind_of (x := t) rfl ?_
    refine bind_of e3 ?_
    refine bind_of (x := n) rfl ?_
    refine bind_of (x := k) rfl ?_
    refine bind_of (x := m) rfl ?_
    refine bind_of (x := t) rfl ?_
    refine bind_of e4 ?_
    refine ite_of_f (by simp) ?_
    rw [w64_id (n := (i : Int) + 1) (by omega) (by omega)]
    rfl
  have hloop : loop (exchangepointlaw39_IntervalCounts_L0 a0 a1 a2 a3 R1 R2 R3 R4 R5 R6 R7) (0 : Int) = some (.inr ()) := by
    refine loop_next (step 0 a0 a1 a2 a3 (by omega) rfl) ?_
    refine loop_next (step 1 R1 R2 R3 (w64 (R4 - 2)) (by omega) rfl) ?_
    refine loop_next (step 2 (w64 (R5 - 2)) (w64 (R6 - 2)) (w64 (R7 - 2)) a3 (by omega) rfl) ?_
    refine loop_out ?_
    rfl
  refine bind_of hloop ?_
  exact bind_of awake_eq rfl

theorem raw_eq (a0 : Int) (_ : I64 a0) (a1 : Int) (_ : I64 a1) (a2 : Int) (_ : I64 a2) (a3 : Int) (_ : I64 a3) : exchangepointlaw39_IntervalRaw a0 a1 a2 a3 = some true := by
  unfold exchangepointlaw39_IntervalRaw
  by_cases h : 0 ≤ a0 ∧ a0 ≤ 60
  · exact ite_of_t (by simp; omega) (bind_of awake_eq rfl)
  refine ite_of_f (by simp; omega) ?_
  have hv : ∀ b c d, interval_valid a0 b c d = some false := by intro b c d; unfold interval_valid; simp; omega
  refine bind_of (int_choose_any a0 a1) ?_
  rw [if_pos (by omega)]
  refine bind_of (x := (0, 1)) (by unfold interval_AtLeast; exact bind_of (hv _ _ _) (ite_of_t (by rfl) rfl)) ?_
  refine bind_of (x := (0, 1)) (by unfold interval_AtMost; exact bind_of (hv _ _ _) (ite_of_t (by rfl) rfl)) ?_
  refine bind_of (x := (0, 0, 1)) (by unfold interval_Bounds; exact bind_of (hv _ _ _) (ite_of_t (by simp) rfl)) ?_
  refine bind_of (x := (0, 0, 1)) (by unfold interval_Cover; exact bind_of (hv _ _ _) (ite_of_t (by rfl) rfl)) ?_
  show jn _ _ = _
  unfold jn
  refine ite_of_t (by rfl) ?_
  exact bind_of awake_eq rfl

theorem AL_AM {P D M : Nat} (hM : M ≤ P) (k : Int) : AL P D M k + AM P D M (k - 1) = C P D := by
  unfold AL AM
  rw [← S_add, ← EN_sum hM]
  refine S_congr _ fun j _ => ?_
  unfold fa fb
  by_cases h : k ≤ (j : Int)
  · rw [if_pos h, if_neg (by omega)]; rfl
  · rw [if_neg h, if_pos (by omega)]; omega

theorem parts_eq (a0 : Int) (_ : I64 a0) (a1 : Int) (_ : I64 a1) (a2 : Int) (_ : I64 a2) (a3 : Int) (_ : I64 a3) : exchangepointlaw39_IntervalParts a0 a1 a2 a3 = some true := by
  unfold exchangepointlaw39_IntervalParts
  obtain ⟨p0, p1⟩ := emod_lt' a0 (m := 60) (by omega)
  refine bind_of (mod_eq a0 60 (by omega) (by omega)) ?_
  generalize a0 % 60 = R at *
  obtain ⟨Q, rfl⟩ : ∃ Q : Nat, R = Q := ⟨R.toNat, by omega⟩
  rw [w64_id (n := 1 + (Q : Int)) (by omega) (by omega), show 1 + (Q : Int) = ((Q + 1 : Nat) : Int) from by omega]
  rw [w64_id (n := ((Q + 1 : Nat) : Int) + 1) (by omega) (by omega), w64_id (n := ((Q + 1 : Nat) : Int) - 1) (by omega) (by omega), show ((Q + 1 : Nat) : Int) - 1 = (Q : Int) from by omega]
  obtain ⟨s0, s1⟩ := emod_lt' a1 (m := ((Q + 1 : Nat) : Int) + 1) (by omega)
  refine bind_of (mod_eq a1 _ (by omega) (by omega)) ?_
  generalize a1 % (((Q + 1 : Nat) : Int) + 1) = s at *
  obtain ⟨D, rfl⟩ : ∃ D : Nat, s = D := ⟨s.toNat, by omega⟩
  refine bind_of (int_choose_nat (by omega) (by omega)) ?_
  have hmin : minI (D : Int) (Q : Int) = ((min D Q : Nat) : Int) := by unfold minI; split <;> omega
  rw [hmin]
  refine bind_of (int_choose_nat (by omega) (Nat.min_le_right ..)) ?_
  refine ite_of_f (by rfl) ?_
  unfold jn
  have hrest : ((exchangepointmill_Mod a2 (((Q + 1 : Nat) : Int) + 1)).bind fun r11 =>
      (exchangepointmill_Mod a3 (w64 ((D : Int) + (3 : Int)))).bind fun r12 =>
      (interval_AtLeast ((Q + 1 : Nat) : Int) (D : Int) r11 (w64 (r12 - (1 : Int)))).bind fun r13 =>
      (interval_AtMost ((Q + 1 : Nat) : Int) (D : Int) r11 (w64 ((w64 (r12 - (1 : Int))) - (1 : Int)))).bind fun r14 =>
      (if (((r13.2 == (0 : Int)) && (r14.2 == (0 : Int))) && ((w64 (r13.1 + r14.1)) == (C (Q + 1) D : Int))) = true then
      (exchangepointlaw39_awake).bind fun r20 => some r20
      else some false)) = some true := by
    obtain ⟨m0, m1⟩ := emod_lt' a2 (m := ((Q + 1 : Nat) : Int) + 1) (by omega)
    refine bind_of (mod_eq a2 _ (by omega) (by omega)) ?_
    generalize a2 % (((Q + 1 : Nat) : Int) + 1) = m at *
    obtain ⟨M, rfl⟩ : ∃ M : Nat, m = M := ⟨m.toNat, by omega⟩
    rw [w64_id (n := (D : Int) + 3) (by omega) (by omega)]
    obtain ⟨y0, y1⟩ := emod_lt' a3 (m := (D : Int) + 3) (by omega)
    refine bind_of (mod_eq a3 _ (by omega) (by omega)) ?_
    generalize a3 % ((D : Int) + 3) = y at *
    rw [w64_id (n := y - 1) (by omega) (by omega), w64_id (n := y - 1 - 1) (by omega) (by omega)]
    refine bind_of (int_atLeast (P := Q + 1) (D := D) (M := M) (by omega) (by omega) (by omega) (y - 1)) ?_
    refine bind_of (int_atMost (P := Q + 1) (D := D) (M := M) (by omega) (by omega) (by omega) (y - 1 - 1)) ?_
    have hsum := AL_AM (P := Q + 1) (D := D) (M := M) (by omega) (y - 1)
    have hb := CP_le (P := Q + 1) (D := D) (by omega)
    have hw : w64 ((AL (Q + 1) D M (y - 1) : Int) + (AM (Q + 1) D M (y - 1 - 1) : Int)) = (C (Q + 1) D : Int) := by rw [w64_id (by omega) (by omega)]; omega
    refine ite_of_t (by dsimp only; rw [hw]; simp) ?_
    exact bind_of awake_eq rfl
  by_cases hc : (0 : Int) < D ∧ (D : Int) < ((Q + 1 : Nat) : Int)
  · refine ite_of_t (by simp only [Bool.and_eq_true, decide_eq_true_eq]; exact hc) ?_
    obtain ⟨E, rfl⟩ : ∃ E, D = E + 1 := ⟨D - 1, by omega⟩
    rw [w64_id (n := ((E + 1 : Nat) : Int) - 1) (by omega) (by omega), show ((E + 1 : Nat) : Int) - 1 = (E : Int) from by omega]
    refine bind_of (int_choose_nat (by omega) (by omega)) ?_
    have h1 := CP_le (P := Q) (D := E) (by omega)
    have h2 := CP_le (P := Q) (D := E + 1) (by omega)
    have hm : min (E + 1) Q = E + 1 := by omega
    have hw : w64 ((C Q (min (E + 1) Q) : Int) + (C Q E : Int)) = (C (Q + 1) (E + 1) : Int) := by
      rw [hm, w64_id (by omega) (by omega)]
      show _ = ((C Q E + C Q (E + 1) : Nat) : Int)
      omega
    refine ite_of_f (by dsimp only; rw [hw]; simp) ?_
    exact hrest
  · refine ite_of_f (by simp only [Bool.and_eq_false_iff, decide_eq_false_iff_not]; omega) ?_
    exact hrest
end Go.Proofs.Ytjhjijcffgmpkaa

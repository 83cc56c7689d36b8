/- Chapter 38 in plain Lean: the estimates of all cells and of all together (MatrixScales). -/
import Derived.Test.YtpdfmjkfplgkfaaPureT
namespace Go.Proofs.Ytpdfmjkfplgkfaa
open Go Go.Vc

/-- the sum of the floors and the floor of the sum -/
theorem floors (n L : Int) (hL : 1 ≤ L) : ∀ l : List api_Cell, L * S (fun c => c.fBytes * n / L) l ≤ S fB l * n ∧ S fB l * n ≤ L * S (fun c => c.fBytes * n / L) l + l.length * (L - 1)
  | [] => by simp [S]
  | x :: l => by
    obtain ⟨h1, h2⟩ := floors n L hL l
    have e1 := Int.emod_add_mul_ediv (x.fBytes * n) L
    have e2 := Int.emod_nonneg (x.fBytes * n) (show L ≠ 0 by omega)
    have e3 := Int.emod_lt_of_pos (x.fBytes * n) (show 0 < L by omega)
    simp only [S, fB, List.length_cons, Int.add_mul, Int.mul_add, Int.natCast_add]
    omega
theorem est_small {c : api_Cell} {L n : Int} (h1 : 1 ≤ L) (h2 : L ≤ 15) (h3 : L ≤ n) (h4 : n ≤ 1073741840) (s1 : 0 ≤ c.fSamples) (s2 : c.fSamples ≤ L) (b1 : 0 ≤ c.fBytes) (b2 : c.fBytes ≤ 24000) :
    EstF c L n = (c.fBytes * n / L, 0) ∧ 0 ≤ c.fBytes * n / L ∧ c.fBytes * n / L ≤ 25769804160000 := by
  have m1 : c.fBytes * n ≤ 24000 * 1073741840 := Int.mul_le_mul b2 h4 (by omega) (by decide)
  have m0 : 0 ≤ c.fBytes * n := Int.mul_nonneg b1 (by omega)
  have d1 : c.fBytes * n / L ≤ c.fBytes * n := Int.ediv_le_self _ m0
  have d0 : 0 ≤ c.fBytes * n / L := Int.ediv_nonneg m0 (by omega)
  have m2 : c.fBytes * n / L ≤ 25769804160000 := by
    refine Int.le_trans d1 (Int.le_trans m1 (by decide))
  refine ⟨?_, d0, m2⟩
  unfold EstF
  rw [if_pos ⟨h1, by omega, h3, by omega, s1, s2, b1, by omega⟩, if_neg (by omega)]
theorem S_take_le (f : api_Cell → Int) : ∀ (l : List api_Cell) (k : Nat), (∀ c ∈ l, 0 ≤ f c) → 0 ≤ S f (l.take k) ∧ S f (l.take k) ≤ S f l
  | [], k, _ => by simp [S]
  | x :: l, 0, h => by
    have := S_take_le f l 0 fun c hc => h c (List.mem_cons_of_mem _ hc)
    have h1 := h x List.mem_cons_self
    simp only [List.take_zero, S] at *
    omega
  | x :: l, k + 1, h => by
    have := S_take_le f l k fun c hc => h c (List.mem_cons_of_mem _ hc)
    have h1 := h x List.mem_cons_self
    simp only [List.take_succ_cons, S]
    omega
theorem S_snoc (f : api_Cell → Int) {l : List api_Cell} {k : Nat} (h : k < l.length) : S f (l.take (k + 1)) = S f (l.take k) + f l[k] := by
  rw [take_snoc h, S_app]; simp [S]
theorem S_bound (f : api_Cell → Int) (B : Int) : ∀ l : List api_Cell, (∀ c ∈ l, f c ≤ B) → S f l ≤ l.length * B
  | [], _ => by simp [S]
  | x :: l, h => by
    have := S_bound f B l fun c hc => h c (List.mem_cons_of_mem _ hc)
    have h1 := h x List.mem_cons_self
    simp only [S, List.length_cons, Int.natCast_add, Int.add_mul]
    omega
theorem scales_law (a0 : List Int) (h0 : (∀ y ∈ a0, I64 y) ∧ a0.length ≤ maxLen) (a1 : Int) {p1 : Prop} (_ : p1) (a2 : Int) {p2 : Prop} (_ : p2) : exchangepointlaw38_MatrixScales a0 a1 a2 = some true := by
  refine Tot.eq ?_
  unfold exchangepointlaw38_MatrixScales exchangepointmill_New
  refine Tot.bind (Tot.some (Tot.bindT (samples_tot _ (new_ok a0 h0.2)) ?_))
  rintro ⟨a, d⟩ ⟨hf, _⟩
  have hl := hf.len
  simp only at hf hl ⊢
  refine Tot.bindOf (rules_eq a1) (Tot.bindOf (ref_cells a _ (by omega) (by simp [rules_len])) ?_)
  rw [cells_fine a1 hf]
  refine Tot.ite (fun _ => Tot.bindOf awake_eq (Tot.some rfl)) (fun hne => ?_)
  have hL1 : 1 ≤ (a.length : Int) := by simp at hne; have := List.length_pos_iff.2 hne; omega
  have hL2 : (a.length : Int) ≤ 15 := by omega
  refine Tot.bindOf (mod_eq _ 1073741824 (by decide) (by decide)) ?_
  have ht := emod_lt' a2 (show (0 : Int) < 1073741824 by decide)
  generalize a2 % 1073741824 = t at ht
  obtain ⟨mA, sA⟩ := mat_ok a1 hf
  have bA := (cs_S a1 hf.all).2
  have lmA := mA.len
  have pA := S_pos mA.pos
  rw [mA.sumS, mA.sumB] at pA
  obtain ⟨n, hn⟩ : ∃ n, n = (a.length : Int) + t := ⟨_, rfl⟩
  have hnw : w64 ((a.length : Int) + t) = n := by rw [w64_id (by omega) (by omega), hn]
  obtain ⟨m, hm⟩ : ∃ m, m = mat a1 a := ⟨_, rfl⟩
  rw [show putAll [] (List.map (cellOf (RulesL a1)) a) = m from hm.symm]
  rw [← hm] at mA sA lmA
  have cell : ∀ c ∈ m, (0 ≤ c.fSamples ∧ c.fSamples ≤ a.length) ∧ (0 ≤ c.fBytes ∧ c.fBytes ≤ 24000) := fun c hc => by
    have h1 := mA.pos c hc
    have h2 := S_mem mA.pos hc
    rw [mA.sumS, mA.sumB] at h2
    simp only [fS, fB] at h2
    omega
  have est := fun c hc => est_small (c := c) (L := a.length) (n := n) hL1 hL2 (by omega) (by omega) (cell c hc).1.1 (cell c hc).1.2 (cell c hc).2.1 (cell c hc).2.2
  obtain ⟨q, hq⟩ : ∃ q : api_Cell → Int, q = fun c => c.fBytes * n / a.length := ⟨_, rfl⟩
  have hqc : ∀ c ∈ m, 0 ≤ q c ∧ q c ≤ 25769804160000 := fun c hc => by rw [hq]; exact (est c hc).2
  have sq : S q m ≤ 15 * 25769804160000 := by
    refine Int.le_trans (S_bound q 25769804160000 m fun c hc => (hqc c hc).2) (Int.mul_le_mul_of_nonneg_right (by omega) (by decide))
  refine Tot.bindRng m.length (fun k (b : Int × Int × Int) => (b.1, ((k : Nat) : Int), b.2.1, b.2.2)) (fun k b => b = (S q (m.take k), S fS (m.take k), S fB (m.take k))) (fun x => x = .inr (S q m, S fS m, S fB m)) (0, 0, 0) rfl rfl (fun k b hk hb => ?_) (fun b hb => ?_) (fun x hx => ?_)
  · subst hb
    unfold exchangepointlaw38_MatrixScales_L0
    simp only
    rw [hnw]
    have hw : w64 ((k : Int) + 1) = ((k + 1 : Nat) : Int) := by rw [w64_id (by omega) (by omega)]; rfl
    have hc := List.getElem_mem hk
    have e1 := cell _ hc
    have e2 := hqc _ hc
    have t1 := S_take_le q m k fun c hc => (hqc c hc).1
    have t2 := S_take_le fS m k fun c hc => (cell c hc).1.1
    have t3 := S_take_le fB m k fun c hc => (cell c hc).2.1
    rw [mA.sumS] at t2
    rw [mA.sumB] at t3
    refine Tot.iteT (by simpa using hk) (Tot.bindIdx k rfl hk (Tot.bindOf (est_tot _ _ _) ?_))
    rw [(est _ hc).1]
    have e4 : m[k].fBytes * n / a.length = q m[k] := by rw [hq]
    simp only [e4]
    refine Tot.iteF rfl (Tot.step (S q (m.take (k + 1)), S fS (m.take (k + 1)), S fB (m.take (k + 1))) ?_ rfl)
    rw [hw, S_snoc q hk, S_snoc fS hk, S_snoc fB hk, w64_id (by omega) (by omega), w64_id (by omega) (by omega), w64_id (by omega) (by omega)]
  · subst hb
    unfold exchangepointlaw38_MatrixScales_L0
    refine Tot.iteF (by simp) (Tot.last ?_)
    simp only [List.take_length]
  · subst hx
    simp only
    rw [hnw, mA.sumS, mA.sumB]
    have hall := est_small (c := api_Cell.mk 0 0 a.length (S fB (cs a1 a))) (L := a.length) (n := n) hL1 hL2 (by omega) (by omega) (by simp only; omega) (Int.le_refl _) pA.2.1 (by simp only; omega)
    refine Tot.bindOf (est_tot _ _ _) ?_
    rw [hall.1]
    have hfl := floors n a.length hL1 m
    rw [mA.sumB] at hfl
    have hqe : S (fun c => c.fBytes * n / (a.length : Int)) m = S q m := by rw [hq]
    rw [hqe] at hfl
    have hall2 := hall.2
    simp only at hall2 ⊢
    have hm1 : 1 ≤ (m.length : Int) := by
      cases hmm : m with
      | nil =>
        have := mA.sumS
        rw [hmm] at this
        simp [S] at this
        omega
      | cons c l => simp only [List.length_cons]; omega
    have r1 : S q m ≤ S fB (cs a1 a) * n / a.length := by
      refine Int.le_ediv_of_mul_le (by omega) ?_
      rw [Int.mul_comm]; exact hfl.1
    have r2 : S fB (cs a1 a) * n / a.length < S q m + m.length := by
      refine Int.ediv_lt_of_lt_mul (by omega) ?_
      have h1 : (m.length : Int) * ((a.length : Int) - 1) = m.length * a.length - m.length := by rw [Int.mul_sub, Int.mul_one]
      have h2 : (S q m + m.length) * (a.length : Int) = a.length * S q m + m.length * a.length := by rw [Int.add_mul, Int.mul_comm (S q m)]
      rw [h2]
      omega
    refine Tot.jn (Tot.iteT ?_ (Tot.bindOf awake_eq (Tot.some rfl)))
    rw [w64_id (by omega) (by omega)]
    simp only [Bool.and_eq_true, decide_eq_true_eq]
    exact ⟨⟨rfl, r1⟩, by omega⟩
end Go.Proofs.Ytpdfmjkfplgkfaa

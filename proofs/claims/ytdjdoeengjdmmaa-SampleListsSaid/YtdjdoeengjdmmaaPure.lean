/- Chapter 37, in plain Lean: what the printed functions answer. -/
import Derived.Test.YtdjdoeengjdmmaaFns
import Derived.Test.YtdjdoeengjdmmaaVcQ
namespace Go.Proofs.Ytdjdoeengjdmmaa
open Go Go.Vc
abbrev I64 (x : Int) : Prop := IntKind.i64.min ≤ x ∧ x ≤ IntKind.i64.max

theorem mod_eq (a m : Int) (hm : 0 < m) (hb : m ≤ 4611686018427387904) : exchangepointmill_Mod a m = some (a % m) := by
  obtain ⟨h0, h1⟩ := emod_lt' a hm
  unfold exchangepointmill_Mod
  refine chk_of (by simp; omega) ?_
  unfold jn
  rcases tmod_emod a hm with h | ⟨h, hn⟩
  · rw [h]
    exact ite_of_f (by simp; omega) rfl
  · rw [h]
    refine ite_of_t (by simp; omega) ?_
    rw [show a % m - m + m = a % m from by omega, w64_id (by omega) (by omega)]

/-- the first k positions -/
def ps (f r : Int) (k : Nat) : List Int := (List.range k).map fun i : Nat => f + (i : Int) * r
theorem ps_succ (f r : Int) (k : Nat) : ps f r (k + 1) = ps f r k ++ [f + (k : Int) * r] := by simp [ps, List.range_succ]
theorem ps_len (f r : Int) (k : Nat) : (ps f r k).length = k := by simp [ps]
theorem ps_get (f r : Int) {k i : Nat} (h : i < k) : (ps f r k)[i]? = some (f + (i : Int) * r) := by simp [ps, h]

/-- how many there are -/
def cnt (n r f : Int) : Nat := ((n - f + r - 1) / r).toNat
theorem cnt_iff {n r f : Int} (hr : 1 ≤ r) (_hf : 0 ≤ f) (i : Nat) : i < cnt n r f ↔ f + (i : Int) * r < n := by
  unfold cnt
  have h1 : (i : Int) + 1 ≤ (n - f + r - 1) / r ↔ ((i : Int) + 1) * r ≤ n - f + r - 1 := Int.le_ediv_iff_mul_le (by omega)
  rw [Int.add_mul, Int.one_mul] at h1
  generalize (i : Int) * r = z at *
  constructor
  · intro h; have := h1.1 (by omega); omega
  · intro h; have := h1.2 (by omega); omega

theorem cnt_mul {n r f : Int} (hr : 1 ≤ r) (hf : 0 ≤ f) {i : Nat} (h : i ≤ cnt n r f) (hn : 0 ≤ n) (hfr : f < r) : f + (i : Int) * r < n + r := by
  cases i with
  | zero => simp; omega
  | succ i =>
    have := (cnt_iff (n := n) hr hf i).1 h
    rw [show ((i + 1 : Nat) : Int) = (i : Int) + 1 from by omega, Int.add_mul, Int.one_mul]
    omega

def pickAns (n r f : Int) : List Int × Int := if cnt n r f ≤ 1000 then (ps f r (cnt n r f), 0) else ([], 1)

section
variable {n r f : Int} (h0 : 0 ≤ n) (h1 : n ≤ 1073741824) (h2 : 1 ≤ r) (h3 : r ≤ 1048576) (h4 : 0 ≤ f) (h5 : f < r)
include h0 h1 h2 h3 h4 h5
theorem pick_sample : sample_Pick n r f = some (pickAns n r f) := by
  unfold sample_Pick
  refine ite_of_f (by simp; omega) ?_
  show jn _ _ = _
  unfold jn
  have hj : (decide (1000 < cnt n r f) = true ∧ ((fun m4 : Bool => (if m4 = true then some (([] : List Int), (1 : Int)) else
      (loop (sample_Pick_L0 n r) (f, ([] : List Int))).bind fun p12 => some (p12, (0 : Int)))) true = some (pickAns n r f))) ∨ (cnt n r f ≤ 1000 ∧ ((fun m4 : Bool => (if m4 = true then some (([] : List Int), (1 : Int)) else
      (loop (sample_Pick_L0 n r) (f, ([] : List Int))).bind fun p12 => some (p12, (0 : Int)))) false = some (pickAns n r f))) := by
    by_cases hc : cnt n r f ≤ 1000
    · right
      refine ⟨hc, ?_⟩
      obtain ⟨x, hx, h⟩ := loop_meas (tb := sample_Pick_L0 n r) (fun s => ∃ k : Nat, k ≤ cnt n r f ∧ s = (f + (k : Int) * r, ps f r k)) (fun s => cnt n r f - s.2.length) (fun x => x = ps f r (cnt n r f)) (by
        rintro s ⟨k, hk, rfl⟩
        unfold sample_Pick_L0
        by_cases hlt : k < cnt n r f
        · right
          have hn := (cnt_iff h2 h4 k).1 hlt
          have hz : 0 ≤ (k : Int) * r := Int.mul_nonneg (by omega) (by omega)
          refine ⟨_, ⟨k + 1, hlt, rfl⟩, by simp [ps_len]; omega, ?_⟩
          refine ite_of_t (by simpa using hn) ?_
          refine chk_of (by simp [ps_len, LIM]; omega) ?_
          rw [show ((k + 1 : Nat) : Int) = (k : Int) + 1 from by omega, Int.add_mul, Int.one_mul, w64_id (by omega) (by omega), ps_succ]
          simp [Int.add_assoc]
        · left
          have : k = cnt n r f := by omega
          subst this
          have hn : ¬ f + (cnt n r f : Int) * r < n := fun h => hlt ((cnt_iff h2 h4 _).2 h)
          exact ⟨_, rfl, ite_of_f (by simp; omega) rfl⟩) (s := (f, [])) ⟨0, Nat.zero_le _, by simp [ps]⟩
      subst hx
      show Option.bind _ _ = _
      refine bind_of h ?_
      simp [pickAns, hc]
    · left
      exact ⟨by simp; omega, by simp [pickAns, hc]⟩
  by_cases hfn : f < n
  · refine ite_of_t (by simpa using hfn) ?_
    refine chk_of (by simp; omega) ?_
    rw [w64_id (n := n - f) (by omega) (by omega), w64_id (n := n - f - 1) (by omega) (by omega), Int.tdiv_eq_ediv_of_nonneg (by omega)]
    have hd : (n - f - 1) / r ≤ n - f - 1 := Int.ediv_le_self _ (by omega)
    have hd0 : 0 ≤ (n - f - 1) / r := Int.ediv_nonneg (by omega) (by omega)
    rw [w64_id (by omega) (by omega)]
    have hiff : (1000 : Int) ≤ (n - f - 1) / r ↔ 1000 < cnt n r f := by
      rw [cnt_iff h2 h4, Int.le_ediv_iff_mul_le (by omega)]
      omega
    rcases hj with ⟨hc, h⟩ | ⟨hc, h⟩
    · rw [show decide ((1000 : Int) ≤ (n - f - 1) / r) = true from by simpa using hiff.2 (by simpa using hc)]
      exact h
    · rw [show decide ((1000 : Int) ≤ (n - f - 1) / r) = false from by simp only [decide_eq_false_iff_not]; intro e; have := hiff.1 e; omega]
      exact h
  · refine ite_of_f (by simp; omega) ?_
    have hc : cnt n r f = 0 := by
      cases hk : cnt n r f with
      | zero => rfl
      | succ k => have := (cnt_iff (n := n) h2 h4 0).1 (by omega); simp at this; omega
    rcases hj with ⟨hc', h⟩ | ⟨_, h⟩
    · simp [hc] at hc'
    · exact h

theorem pick_ref : exchangepointref37_Pick n r f = some (pickAns n r f) := by
  unfold exchangepointref37_Pick
  refine ite_of_f (by simp; omega) ?_
  obtain ⟨x, hx, h⟩ := loop_meas (tb := exchangepointref37_Pick_L0 n r) (fun s => ∃ k : Nat, k ≤ cnt n r f ∧ k ≤ 1000 ∧ s = (f + (k : Int) * r, ps f r k)) (fun s => cnt n r f - s.2.length) (fun x => x = if cnt n r f ≤ 1000 then .inr (ps f r (cnt n r f)) else .inl ()) (by
    rintro s ⟨k, hk, hk', rfl⟩
    unfold exchangepointref37_Pick_L0
    by_cases hlt : k < cnt n r f
    · have hn := (cnt_iff h2 h4 k).1 hlt
      have hz : 0 ≤ (k : Int) * r := Int.mul_nonneg (by omega) (by omega)
      by_cases he : k = 1000
      · left
        refine ⟨.inl (), by rw [if_neg (by omega)], ?_⟩
        refine ite_of_t (by simpa using hn) ?_
        exact ite_of_t (by simp [ps_len, he]) rfl
      · right
        refine ⟨_, ⟨k + 1, hlt, by omega, rfl⟩, by simp [ps_len]; omega, ?_⟩
        refine ite_of_t (by simpa using hn) ?_
        refine ite_of_f (by simp [ps_len]; omega) ?_
        refine chk_of (by simp [ps_len, LIM]; omega) ?_
        rw [show ((k + 1 : Nat) : Int) = (k : Int) + 1 from by omega, Int.add_mul, Int.one_mul, w64_id (by omega) (by omega), ps_succ]
        simp [Int.add_assoc]
    · left
      have : k = cnt n r f := by omega
      have hn : ¬ f + (k : Int) * r < n := fun h => hlt ((cnt_iff h2 h4 _).2 h)
      refine ⟨.inr (ps f r k), by rw [← this, if_pos hk'], ite_of_f (by simp; omega) rfl⟩) (s := (f, [])) ⟨0, Nat.zero_le _, by omega, by simp [ps]⟩
  refine bind_of h ?_
  rw [hx]
  by_cases hc : cnt n r f ≤ 1000
  · simp [pickAns, hc]
  · simp [pickAns, hc]
end

theorem pick_any (n r f : Int) : ∃ x, sample_Pick n r f = some x ∧ exchangepointref37_Pick n r f = some x := by
  by_cases h : 0 ≤ n ∧ n ≤ 1073741824 ∧ 1 ≤ r ∧ r ≤ 1048576 ∧ 0 ≤ f ∧ f < r
  · obtain ⟨h0, h1, h2, h3, h4, h5⟩ := h
    exact ⟨_, pick_sample h0 h1 h2 h3 h4 h5, pick_ref h0 h1 h2 h3 h4 h5⟩
  · refine ⟨([], 1), ?_, ?_⟩
    · unfold sample_Pick; exact ite_of_t (by simp; omega) rfl
    · unfold exchangepointref37_Pick; exact ite_of_t (by simp; omega) rfl

theorem same_self (l : List Int) (hl : l.length ≤ 4611686018427387904) : exchangepointref23_SameInts l l = some true := by
  unfold exchangepointref23_SameInts
  refine ite_of_f (by simp) ?_
  obtain ⟨x, hx, h⟩ := loop_meas (tb := exchangepointref23_SameInts_L0 l l) (fun s => ∃ k : Nat, k ≤ l.length ∧ s = (k : Int)) (fun s => l.length - s.toNat) (fun x => x = .inr ()) (by
    rintro s ⟨k, hk, rfl⟩
    unfold exchangepointref23_SameInts_L0
    by_cases hlt : k < l.length
    · right
      have hg := List.getElem?_eq_getElem hlt
      refine ⟨((k + 1 : Nat) : Int), ⟨k + 1, hlt, rfl⟩, by simp; omega, ?_⟩
      refine ite_of_t (by simpa using hlt) ?_
      refine bind_of (idx_get hg) ?_
      refine bind_of (idx_get hg) ?_
      refine ite_of_f (by simp) ?_
      rw [w64_id (by omega) (by omega)]
      rfl
    · left
      have : k = l.length := by omega
      subst this
      exact ⟨_, rfl, ite_of_f (by simp) rfl⟩) (s := (0 : Int)) ⟨0, Nat.zero_le _, rfl⟩
  subst hx
  exact bind_of h rfl

theorem awake_eq : exchangepointlaw37_awake = some true := by
  unfold exchangepointlaw37_awake
  have hp := pick_sample (n := 10) (r := 4) (f := 1) (by omega) (by omega) (by omega) (by omega) (by omega) (by omega)
  have hc : pickAns 10 4 1 = ([1, 5, 9], 0) := by rfl
  rw [hc] at hp
  refine bind_of hp ?_
  have hv : sample_Valid ([(api_Sample.mk (0 : Int) (1 : Int) (10 : Int) (1 : Int) (2 : Int) (0 : Int)), (api_Sample.mk (0 : Int) (3 : Int) (30 : Int) (1 : Int) (2 : Int) (0 : Int))] : List api_Sample) = some true := by
    unfold sample_Valid
    refine ite_of_f (by rfl) ?_
    refine bind_of (loop_of (n := 3) (x := .inr ()) (by rfl)) rfl
  show jn _ _ = _
  unfold jn
  refine ite_of_t (by rfl) ?_
  refine bind_of (x := 9) (by rfl) ?_
  refine ite_of_t (by rfl) ?_
  refine bind_of hv ?_
  rfl

theorem pickAns_len {n r f : Int} : (pickAns n r f).1.length ≤ 1000 := by
  unfold pickAns; split <;> simp [ps_len]; assumption

theorem picks_eq (a0 : Int) (_ : I64 a0) (a1 : Int) (_ : I64 a1) (a2 : Int) (_ : I64 a2) : exchangepointlaw37_SamplePicks a0 a1 a2 = some true := by
  unfold exchangepointlaw37_SamplePicks
  obtain ⟨r0, r1⟩ := emod_lt' a1 (m := 50) (by omega)
  refine bind_of (mod_eq a1 50 (by omega) (by omega)) ?_
  generalize a1 % 50 = R at *
  refine bind_of (mod_eq a0 300 (by omega) (by omega)) ?_
  rw [w64_id (n := 1 + R) (by omega) (by omega), w64_id (n := 1 + R + 2) (by omega) (by omega)]
  refine bind_of (mod_eq a2 (1 + R + 2) (by omega) (by omega)) ?_
  refine bind_of (mod_eq a0 1073741824 (by omega) (by omega)) ?_
  refine bind_of (mod_eq a2 1048576 (by omega) (by omega)) ?_
  generalize a0 % 300 = N1
  generalize a2 % (1 + R + 2) = F1
  generalize a0 % 1073741824 = N2
  generalize a2 % 1048576 = F2
  have round : ∀ (n r f : Int), ∃ x, sample_Pick n r f = some x ∧ exchangepointref37_Pick n r f = some x ∧ x.1.length ≤ 1000 := by
    intro n r f
    by_cases h : 0 ≤ n ∧ n ≤ 1073741824 ∧ 1 ≤ r ∧ r ≤ 1048576 ∧ 0 ≤ f ∧ f < r
    · obtain ⟨h0, h1, h2, h3, h4, h5⟩ := h
      exact ⟨_, pick_sample h0 h1 h2 h3 h4 h5, pick_ref h0 h1 h2 h3 h4 h5, pickAns_len⟩
    · refine ⟨([], 1), ?_, ?_, by simp⟩
      · unfold sample_Pick; exact ite_of_t (by simp; omega) rfl
      · unfold exchangepointref37_Pick; exact ite_of_t (by simp; omega) rfl
  have step : ∀ (k : Nat) (n r f : Int), k < 3 → ([([a0, a1, a2] : List Int), ([N1, (w64 ((1 : Int) + R)), (w64 (F1 - (1 : Int)))] : List Int), ([N2, (1048576 : Int), F2] : List Int)] : List (List Int))[k]? = some [n, r, f] →
      exchangepointlaw37_SamplePicks_L0 a0 a1 a2 R N1 F1 N2 F2 (k : Int) = some (.inr ((k + 1 : Nat) : Int)) := by
    intro k n r f hk hg
    obtain ⟨x, e1, e2, e3⟩ := round n r f
    unfold exchangepointlaw37_SamplePicks_L0
    refine ite_of_t (by simp; omega) ?_
    refine bind_of (idx_get hg) ?_
    refine bind_of (x := n) rfl ?_
    refine bind_of (x := r) rfl ?_
    refine bind_of (x := f) rfl ?_
    refine bind_of e1 ?_
    refine bind_of (x := n) rfl ?_
    refine bind_of (x := r) rfl ?_
    refine bind_of (x := f) rfl ?_
    refine bind_of e2 ?_
    show jn _ _ = _
    unfold jn
    refine ite_of_f (by simp) ?_
    refine bind_of (same_self _ (by omega)) ?_
    rw [w64_id (n := (k : Int) + 1) (by omega) (by omega)]
    rfl
  have hloop : loop (exchangepointlaw37_SamplePicks_L0 a0 a1 a2 R N1 F1 N2 F2) (0 : Int) = some (.inr ()) := by
    refine loop_next (step 0 a0 a1 a2 (by omega) rfl) ?_
    refine loop_next (step 1 N1 (w64 (1 + R)) (w64 (F1 - 1)) (by omega) rfl) ?_
    refine loop_next (step 2 N2 1048576 F2 (by omega) rfl) ?_
    refine loop_out ?_
    rfl
  refine bind_of hloop ?_
  exact bind_of awake_eq rfl

theorem ratio_eq (a0 : Int) (_ : I64 a0) (a1 : Int) (_ : I64 a1) (a2 : Int) (_ : I64 a2) : exchangepointlaw37_SampleRatio a0 a1 a2 = some true := by
  unfold exchangepointlaw37_SampleRatio
  obtain ⟨r0, r1⟩ := emod_lt' a1 (m := 60) (by omega)
  obtain ⟨k0, k1⟩ := emod_lt' a0 (m := 900) (by omega)
  refine bind_of (mod_eq a1 60 (by omega) (by omega)) ?_
  generalize a1 % 60 = R at *
  refine bind_of (mod_eq a0 900 (by omega) (by omega)) ?_
  generalize a0 % 900 = N at *
  rw [w64_id (n := 1 + R) (by omega) (by omega)]
  obtain ⟨f0, f1⟩ := emod_lt' a2 (m := 1 + R) (by omega)
  refine bind_of (mod_eq a2 (1 + R) (by omega) (by omega)) ?_
  generalize a2 % (1 + R) = F at *
  have hcnt : ∀ i : Nat, i < cnt N (1 + R) F → (i : Int) < 900 := by
    intro i hi
    have h := (cnt_iff (by omega) f0 i).1 hi
    have : (i : Int) * 1 ≤ i * (1 + R) := Int.mul_le_mul_of_nonneg_left (by omega) (by omega)
    omega
  have hc : cnt N (1 + R) F ≤ 900 := by
    cases hk : cnt N (1 + R) F with
    | zero => omega
    | succ k => have := hcnt k (by omega); omega
  have hp := pick_sample (n := N) (r := 1 + R) (f := F) (by omega) (by omega) (by omega) (by omega) (by omega) (by omega)
  have ha : pickAns N (1 + R) F = (ps F (1 + R) (cnt N (1 + R) F), 0) := by unfold pickAns; rw [if_pos (by omega)]
  rw [ha] at hp
  refine bind_of hp ?_
  refine ite_of_f (by rfl) ?_
  obtain ⟨x, hx, h⟩ := loop_meas (tb := exchangepointlaw37_SampleRatio_L0 R N (ps F (1 + R) (cnt N (1 + R) F), (0 : Int))) (fun s => ∃ k : Nat, k ≤ cnt N (1 + R) F ∧ s = (k : Int)) (fun s => cnt N (1 + R) F - s.toNat) (fun x => x = .inr ()) (by
    rintro s ⟨k, hk, rfl⟩
    unfold exchangepointlaw37_SampleRatio_L0
    by_cases hlt : k < cnt N (1 + R) F
    · right
      have hg := ps_get F (1 + R) hlt
      have hb := (cnt_iff (by omega) f0 k).1 hlt
      have hz : 0 ≤ (k : Int) * (1 + R) := Int.mul_nonneg (by omega) (by omega)
      refine ⟨((k + 1 : Nat) : Int), ⟨k + 1, hlt, rfl⟩, by simp; omega, ?_⟩
      refine ite_of_t (by simp [ps_len]; exact hlt) ?_
      refine bind_of (idx_get hg) ?_
      show jn _ _ = _
      unfold jn
      have last : some (Sum.inr (w64 ((k : Int) + 1))) = (some (Sum.inr (((k + 1 : Nat)) : Int)) : Option ((Unit ⊕ Unit) ⊕ Int)) := by
        rw [w64_id (by omega) (by omega)]; rfl
      refine ite_of_f (by simp; omega) ?_
      cases k with
      | zero => exact ite_of_f (by simp) last
      | succ j =>
        refine ite_of_t (by simp) ?_
        have hg' := ps_get F (1 + R) (show j < cnt N (1 + R) F from by omega)
        have hw : w64 (((j + 1 : Nat) : Int) - 1) = (j : Int) := by rw [w64_id (by omega) (by omega)]; omega
        rw [hw]
        refine bind_of (idx_get hg') ?_
        have hm : ((j + 1 : Nat) : Int) * (1 + R) = (j : Int) * (1 + R) + (1 + R) := by
          rw [show ((j + 1 : Nat) : Int) = (j : Int) + 1 from by omega, Int.add_mul, Int.one_mul]
        have hz' : 0 ≤ (j : Int) * (1 + R) := Int.mul_nonneg (by omega) (by omega)
        have hd : w64 (F + ((j + 1 : Nat) : Int) * (1 + R) - (F + (j : Int) * (1 + R))) = 1 + R := by
          rw [w64_id (by omega) (by omega)]; omega
        rw [hd, w64_id (n := 1 + R) (by omega) (by omega)]
        exact ite_of_f (by simp) last
    · left
      have : k = cnt N (1 + R) F := by omega
      subst this
      exact ⟨_, rfl, ite_of_f (by simp [ps_len]) rfl⟩) (s := (0 : Int)) ⟨0, Nat.zero_le _, rfl⟩
  subst hx
  refine bind_of h ?_
  show jn _ _ = _
  unfold jn
  have hup : ¬ F + (cnt N (1 + R) F : Int) * (1 + R) < N := fun e => by have := (cnt_iff (by omega) f0 _).2 e; omega
  have hlow := cnt_mul (n := N) (r := 1 + R) (f := F) (by omega) f0 (Nat.le_refl _) k0 f1
  have hz : 0 ≤ (cnt N (1 + R) F : Int) * (1 + R) := Int.mul_nonneg (by omega) (by omega)
  have hrest : cnt N (1 + R) F = 0 ∨ (cnt N (1 + R) F : Int) * (1 + R) < N + (1 + R) := .inr (by omega)
  simp only [ps_len]
  generalize (cnt N (1 + R) F : Int) * (1 + R) = Z at *
  rw [w64_id (n := 0 - (1 + R)) (by omega) (by omega), w64_id (n := Z) (by omega) (by omega), w64_id (n := Z - N) (by omega) (by omega)]
  refine ite_of_t (by simp only [Bool.and_eq_true, decide_eq_true_eq]; omega) ?_
  exact bind_of awake_eq rfl
end Go.Proofs.Ytdjdoeengjdmmaa

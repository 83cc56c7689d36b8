/- Chapter 40 in plain Lean: rates, percentiles, series. -/
import Derived.Test.YtimcphncaffenaaFns
import Derived.Test.YtimcphncaffenaaVcX
namespace Go.Proofs.Ytimcphncaffenaa
open Go Go.Vc
abbrev I64 (x : Int) : Prop := IntKind.i64.min ≤ x ∧ x ≤ IntKind.i64.max

theorem mod_eq (a m : Int) (hm : 0 < m) (hb : m ≤ 4611686018427387904) : exchangepointmill_Mod a m = some (a % m) := by
  obtain ⟨h0, h1⟩ := emod_lt' a hm
  unfold exchangepointmill_Mod
  refine chk_of (by simp; omega) ?_
  unfold jn
  rcases tmod_emod a hm with h | ⟨h, hn⟩
  · rw [h]
    exact ite_of_f (by simp; omega) rfl
  · rw [h]
    refine ite_of_t (by simp; omega) ?_
    rw [show a % m - m + m = a % m from by omega, w64_id (by omega) (by omega)]
def DeckOk (d : exchangepointmill_Deck) : Prop := 0 ≤ d.fAt ∧ d.fAt ≤ d.fL.length ∧ d.fL.length ≤ 9223372036854775807
theorem next_tot (d : exchangepointmill_Deck) (hd : DeckOk d) (n : Int) (hn : 0 < n) (hn' : n ≤ 4611686018427387904) : Tot (exchangepointmill_Deck_Next d n) (fun x => 0 ≤ x.1 ∧ x.1 < n ∧ DeckOk x.2) := by
  obtain ⟨h0, h1, h2⟩ := hd
  unfold exchangepointmill_Deck_Next
  refine Tot.ite (fun h => ?_) (fun h => ?_)
  · exact Tot.some ⟨Int.le_refl _, hn, h0, h1, h2⟩
  · obtain ⟨k, hk⟩ : ∃ k : Nat, d.fAt = k := ⟨d.fAt.toNat, by omega⟩
    have hlt : k < d.fL.length := by simp at h; omega
    obtain ⟨m0, m1⟩ := emod_lt' d.fL[k] hn
    rw [w64_id (n := d.fAt + 1) (by omega) (by omega), w64_id (n := d.fAt + 1 - 1) (by omega) (by omega)]
    refine Tot.bindIdx k (by omega) hlt (Tot.bindOf (mod_eq _ n hn hn') (Tot.some ⟨m0, m1, ?_⟩))
    exact ⟨by simp only; omega, by simp only; omega, h2⟩
theorem new_ok (l : List Int) (hl : l.length ≤ 9223372036854775807) : DeckOk ⟨l, 0⟩ := ⟨Int.le_refl _, by simp only; omega, hl⟩

/-- two lists of numbers that are one -/
def rt (b s : Int) : Int := Int.tdiv (8 * b + s * 1000000 - 1) (s * 1000000)
def RateF (b s : Int) : Int × Int := if 0 ≤ b ∧ b ≤ 1125899906842624 ∧ 1 ≤ s ∧ s ≤ 86400 then (rt b s, 0) else (0, 1)
theorem rt_bounds {b s : Int} (h : 0 ≤ b ∧ b ≤ 1125899906842624 ∧ 1 ≤ s ∧ s ≤ 86400) : 0 ≤ rt b s ∧ rt b s ≤ 9007199254740992 := by
  unfold rt
  rw [Int.tdiv_eq_ediv_of_nonneg (by omega)]
  refine ⟨Int.ediv_nonneg (by omega) (by omega), ?_⟩
  refine Int.le_trans (Int.ediv_le_ediv (c := s * 1000000) (b := 9007199254740992 * (s * 1000000)) (by omega) ?_) ?_
  · have : 8 * b ≤ 9007199254740992 := by omega
    have h2 : (9007199254740992 : Int) * (s * 1000000) ≥ 9007199254740992 + s * 1000000 := by
      have : 1000000 ≤ s * 1000000 := by omega
      have h3 : (9007199254740992 - 1) * (s * 1000000) ≥ (9007199254740992 - 1) * 1000000 := Int.mul_le_mul_of_nonneg_left this (by omega)
      rw [Int.sub_mul] at h3
      omega
    omega
  · rw [Int.mul_ediv_cancel _ (by omega)]
    exact Int.le_refl _
theorem rt_mono {a b s : Int} (ha : 0 ≤ a) (hab : a ≤ b) (hs : 1 ≤ s) : rt a s ≤ rt b s := by
  unfold rt
  rw [Int.tdiv_eq_ediv_of_nonneg (by omega), Int.tdiv_eq_ediv_of_nonneg (by omega)]
  exact Int.ediv_le_ediv (by omega) (by omega)
theorem rate_val {b s : Int} (h : 0 ≤ b ∧ b ≤ 1125899906842624 ∧ 1 ≤ s ∧ s ≤ 86400) :
    w64 (Int.tdiv (w64 ((w64 ((w64 ((8 : Int) * b)) + (w64 (s * (1000000 : Int))))) - (1 : Int))) (w64 (s * (1000000 : Int)))) = rt b s := by
  have hb := rt_bounds h
  rw [w64_id (n := 8 * b) (by omega) (by omega), w64_id (n := s * 1000000) (by omega) (by omega), w64_id (n := 8 * b + s * 1000000) (by omega) (by omega), w64_id (n := 8 * b + s * 1000000 - 1) (by omega) (by omega)]
  exact w64_id (by unfold rt at hb; omega) (by unfold rt at hb; omega)
theorem rate_eq (b s : Int) : percentile_Rate b s = some (RateF b s) := by
  refine Tot.eq ?_
  unfold percentile_Rate percentile_length RateF
  refine Tot.jnR (fun m : Bool => m = true ↔ ¬ (0 ≤ b ∧ b ≤ 1125899906842624 ∧ 1 ≤ s ∧ s ≤ 86400)) (fun j hj => ?_) (fun m hm => ?_)
  · refine Tot.ite (fun h => hj _ (by simp at h ⊢; omega)) (fun h => Tot.bind (Tot.some (hj _ ?_)))
    simp only [Bool.or_eq_false_iff, decide_eq_false_iff_not] at h
    simp only [Bool.not_eq_true', Bool.and_eq_false_iff, decide_eq_false_iff_not]
    omega
  · refine Tot.ite (fun h => ?_) (fun h => ?_)
    · rw [if_neg (hm.1 h)]; exact Tot.some rfl
    · have hh : 0 ≤ b ∧ b ≤ 1125899906842624 ∧ 1 ≤ s ∧ s ≤ 86400 := Classical.byContradiction fun hc => by rw [hm.2 hc] at h; cases h
      rw [if_pos hh]
      refine Tot.chk (decide_eq_true ?_) (Tot.some (by rw [rate_val hh]))
      rw [w64_id (by omega) (by omega)]; omega
theorem rate_ref (b s : Int) : exchangepointref40_Rate b s = some (RateF b s) := by
  refine Tot.eq ?_
  unfold exchangepointref40_Rate RateF
  refine Tot.ite (fun h => ?_) (fun h => ?_)
  · rw [if_neg (by simp at h; omega)]; exact Tot.some rfl
  · have hh : 0 ≤ b ∧ b ≤ 1125899906842624 ∧ 1 ≤ s ∧ s ≤ 86400 := by simp at h; omega
    rw [if_pos hh]
    refine Tot.chk (decide_eq_true ?_) (Tot.some (by rw [rate_val hh]))
    rw [w64_id (by omega) (by omega)]; omega

def good (x : Int) : Prop := x = -1 ∨ (0 ≤ x ∧ x ≤ 1125899906842624)
def rec' (l : List Int) : List Int := l.filter (fun x => x != -1)
open Classical in
noncomputable def RatesF (l : List Int) (s : Int) : List Int × Int :=
  if 1 ≤ s ∧ s ≤ 86400 then (if ∀ x ∈ l, good x then ((rec' l).map (fun b => rt b s), 0) else ([], 1)) else ([], 1)
theorem rec_step {l : List Int} {k : Nat} (hk : k < l.length) : rec' (l.take (k + 1)) = rec' (l.take k) ++ (if l[k] = -1 then [] else [l[k]]) := by
  rw [take_succ_get (List.getElem?_eq_getElem hk)]
  unfold rec'
  rw [List.filter_append]
  congr 1
  by_cases h : l[k] = -1 <;> simp [h]
theorem good_step {l : List Int} {k : Nat} (hk : k < l.length) (h : ∀ x ∈ l.take k, good x) (hx : good l[k]) : ∀ x ∈ l.take (k + 1), good x := by
  rw [take_succ_get (List.getElem?_eq_getElem hk)]
  intro x hm
  rcases List.mem_append.1 hm with hm | hm
  · exact h x hm
  · rw [List.mem_singleton.1 hm]; exact hx
theorem rec_len (l : List Int) : (rec' l).length ≤ l.length := List.length_filter_le ..

theorem rates_eq (l : List Int) (hl : l.length ≤ 1000000) (s : Int) : percentile_Rates l s = some (RatesF l s) := by
  refine Tot.eq ?_
  unfold percentile_Rates percentile_length RatesF
  refine Tot.bind (Tot.some ?_)
  refine Tot.ite (fun h => ?_) (fun h => ?_)
  · rw [if_neg (by simp at h; omega)]; exact Tot.some rfl
  · have hs : 1 ≤ s ∧ s ≤ 86400 := by simp at h; omega
    rw [if_pos hs]
    refine Tot.bindLoop (fun st : Int × List Int => ∃ k : Nat, st.1 = k ∧ k ≤ l.length ∧ (∀ x ∈ l.take k, good x) ∧ st.2 = (rec' (l.take k)).map (fun b => rt b s)) (fun st => l.length - st.1.toNat)
      (fun x => match x with | .inl e => e = 1 ∧ ¬ ∀ x ∈ l, good x | .inr out => (∀ x ∈ l, good x) ∧ out = (rec' l).map (fun b => rt b s)) ⟨0, rfl, Nat.zero_le _, by simp, by simp [rec']⟩ ?_ ?_
    · rintro ⟨s1, out⟩ ⟨k, e, hk, hg, ho⟩
      simp only at e ho
      subst e
      unfold percentile_Rates_L0
      simp only
      refine Tot.ite (fun h => ?_) (fun h => ?_)
      · have hlt : k < l.length := by simpa using h
        have hw := cast_succ_w hlt (by omega)
        have hol : out.length ≤ k := by
          rw [ho, List.length_map]; exact Nat.le_trans (rec_len _) (by rw [List.length_take]; omega)
        refine Tot.jnR (fun m => good l[k] ∧ m = (rec' (l.take (k + 1))).map (fun b => rt b s)) (fun j hj => ?_) (fun m hm => ?_)
        · refine Tot.bindIdx k rfl hlt (Tot.ite (fun c => ?_) (fun c => ?_))
          · have hc : l[k] = -1 := by simpa using c
            exact hj _ ⟨.inl hc, by rw [rec_step hlt, if_pos hc, List.append_nil]; exact ho⟩
          · have hc : l[k] ≠ -1 := by simpa using c
            refine Tot.bindOf (rate_eq _ _) (Tot.ite (fun c2 => ?_) (fun c2 => ?_))
            · refine Tot.out ⟨?_, fun hall => ?_⟩
              · unfold RateF at c2 ⊢
                by_cases hr : 0 ≤ l[k] ∧ l[k] ≤ 1125899906842624 ∧ 1 ≤ s ∧ s ≤ 86400
                · rw [if_pos hr] at c2; simp at c2
                · rw [if_neg hr]
              · rcases hall _ (List.getElem_mem hlt) with h1 | h1
                · exact hc h1
                · unfold RateF at c2
                  rw [if_pos ⟨h1.1, h1.2, hs⟩] at c2
                  simp at c2
            · have hr : 0 ≤ l[k] ∧ l[k] ≤ 1125899906842624 ∧ 1 ≤ s ∧ s ≤ 86400 := Classical.byContradiction fun hr => by
                unfold RateF at c2; rw [if_neg hr] at c2; simp at c2
              refine Tot.chk (by simp [LIM]; omega) (hj _ ⟨.inr ⟨hr.1, hr.2.1⟩, ?_⟩)
              rw [rec_step hlt, if_neg hc, List.map_append, ← ho]
              unfold RateF
              rw [if_pos hr]
              rfl
        · exact Tot.next ⟨k + 1, hw, hlt, good_step hlt hg hm.1, hm.2⟩ (by simp only [hw, Int.toNat_natCast]; omega)
      · have : k = l.length := by simp at h; omega
        subst this
        rw [List.take_length] at hg ho
        exact Tot.out ⟨hg, ho⟩
    · intro x hx
      cases x with
      | inl e => obtain ⟨rfl, hx⟩ := hx; rw [if_neg hx]; exact Tot.some rfl
      | inr out => obtain ⟨hx, rfl⟩ := hx; rw [if_pos hx]; exact Tot.some rfl
theorem rates_ref (l : List Int) (hl : l.length ≤ 1000000) (s : Int) : exchangepointref40_Rates l s = some (RatesF l s) := by
  refine Tot.eq ?_
  unfold exchangepointref40_Rates RatesF
  refine Tot.ite (fun h => ?_) (fun h => ?_)
  · rw [if_neg (by simp at h; omega)]; exact Tot.some rfl
  · have hs : 1 ≤ s ∧ s ≤ 86400 := by simp at h; omega
    rw [if_pos hs]
    refine Tot.bindLoop (fun st : Int × List Int => ∃ k : Nat, st.1 = k ∧ k ≤ l.length ∧ (∀ x ∈ l.take k, good x) ∧ st.2 = (rec' (l.take k)).map (fun b => rt b s)) (fun st => l.length - st.1.toNat)
      (fun x => match x with | .inl e => e = 1 ∧ ¬ ∀ x ∈ l, good x | .inr out => (∀ x ∈ l, good x) ∧ out = (rec' l).map (fun b => rt b s)) ⟨0, rfl, Nat.zero_le _, by simp, by simp [rec']⟩ ?_ ?_
    · rintro ⟨s1, out⟩ ⟨k, e, hk, hg, ho⟩
      simp only at e ho
      subst e
      unfold exchangepointref40_Rates_L0
      simp only
      refine Tot.ite (fun h => ?_) (fun h => ?_)
      · have hlt : k < l.length := by simpa using h
        have hw := cast_succ_w hlt (by omega)
        have hol : out.length ≤ k := by
          rw [ho, List.length_map]; exact Nat.le_trans (rec_len _) (by rw [List.length_take]; omega)
        refine Tot.jnR (fun m => good l[k] ∧ m = (rec' (l.take (k + 1))).map (fun b => rt b s)) (fun j hj => ?_) (fun m hm => ?_)
        · refine Tot.bindIdx k rfl hlt (Tot.ite (fun c => ?_) (fun c => ?_))
          · have hc : l[k] = -1 := by simpa using c
            exact hj _ ⟨.inl hc, by rw [rec_step hlt, if_pos hc, List.append_nil]; exact ho⟩
          · have hc : l[k] ≠ -1 := by simpa using c
            refine Tot.bindOf (rate_ref _ _) (Tot.ite (fun c2 => ?_) (fun c2 => ?_))
            · refine Tot.out ⟨?_, fun hall => ?_⟩
              · unfold RateF at c2 ⊢
                by_cases hr : 0 ≤ l[k] ∧ l[k] ≤ 1125899906842624 ∧ 1 ≤ s ∧ s ≤ 86400
                · rw [if_pos hr] at c2; simp at c2
                · rw [if_neg hr]
              · rcases hall _ (List.getElem_mem hlt) with h1 | h1
                · exact hc h1
                · unfold RateF at c2
                  rw [if_pos ⟨h1.1, h1.2, hs⟩] at c2
                  simp at c2
            · have hr : 0 ≤ l[k] ∧ l[k] ≤ 1125899906842624 ∧ 1 ≤ s ∧ s ≤ 86400 := Classical.byContradiction fun hr => by
                unfold RateF at c2; rw [if_neg hr] at c2; simp at c2
              refine Tot.chk (by simp [LIM]; omega) (hj _ ⟨.inr ⟨hr.1, hr.2.1⟩, ?_⟩)
              rw [rec_step hlt, if_neg hc, List.map_append, ← ho]
              unfold RateF
              rw [if_pos hr]
              rfl
        · exact Tot.next ⟨k + 1, hw, hlt, good_step hlt hg hm.1, hm.2⟩ (by simp only [hw, Int.toNat_natCast]; omega)
      · have : k = l.length := by simp at h; omega
        subst this
        rw [List.take_length] at hg ho
        exact Tot.out ⟨hg, ho⟩
    · intro x hx
      cases x with
      | inl e => obtain ⟨rfl, hx⟩ := hx; rw [if_neg hx]; exact Tot.some rfl
      | inr out => obtain ⟨hx, rfl⟩ := hx; rw [if_pos hx]; exact Tot.some rfl
theorem ratesF_len (l : List Int) (s : Int) : (RatesF l s).1.length ≤ l.length := by
  unfold RatesF
  split
  · split
    · simp only [List.length_map]; exact rec_len l
    · simp
  · simp

-- percentiles

def rk (n : Nat) (p : Int) : Nat := ((p.toNat * n + 99) / 100) - 1
theorem rk_lt {n : Nat} {p : Int} (h1 : 1 ≤ p) (h2 : p ≤ 100) (hn : 0 < n) : rk n p < n := by
  unfold rk
  obtain ⟨q, hq⟩ : ∃ q : Nat, p = q := ⟨p.toNat, by omega⟩
  subst hq
  have : q * n ≤ 100 * n := Nat.mul_le_mul_right _ (by omega)
  simp only [Int.toNat_natCast]
  omega
theorem rk_up {n : Nat} {p : Int} (h1 : 1 ≤ p) (hn : 0 < n) : p.toNat * n ≤ 100 * (rk n p + 1) ∧ 100 * rk n p < p.toNat * n := by
  unfold rk
  have : 0 < p.toNat * n := Nat.mul_pos (by omega) hn
  omega
theorem rk_val {n : Nat} {p : Int} (h1 : 1 ≤ p) (h2 : p ≤ 100) (hn : 0 < n) (hn' : n ≤ 9000) : w64 ((w64 (Int.tdiv (w64 ((w64 (p * (n : Int))) + (99 : Int))) (100 : Int))) - (1 : Int)) = (rk n p : Int) := by
  obtain ⟨q, hq⟩ : ∃ q : Nat, p = q := ⟨p.toNat, by omega⟩
  subst hq
  have h3 : q * n ≤ 100 * n := Nat.mul_le_mul_right _ (by omega)
  have h4 : 0 < q * n := Nat.mul_pos (by omega) hn
  have e : (q : Int) * (n : Int) = ((q * n : Nat) : Int) := by simp
  unfold rk
  simp only [Int.toNat_natCast]
  rw [e]
  generalize q * n = m at h3 h4
  have hm : m ≤ 900000 := by omega
  rw [w64_id (n := (m : Int)) (by omega) (by omega), w64_id (n := (m : Int) + 99) (by omega) (by omega)]
  rw [Int.tdiv_eq_ediv_of_nonneg (by omega)]
  rw [w64_id (n := ((m : Int) + 99) / 100) (by omega) (by omega), w64_id (by omega) (by omega)]
  omega
def PctF (l : List Int) (p : Int) : Int × Int := if 1 ≤ p ∧ p ≤ 100 ∧ l.length ≤ 9000 then (if l.length = 0 then (0, 39) else ((srt l)[rk l.length p]?.getD 0, 0)) else (0, 1)
theorem sort_eq (l : List Int) (hl : l.length ≤ 1000000) : ext45_slices_Sort l = some (srt l) := by
  unfold ext45_slices_Sort
  rw [if_pos (by omega)]
  rfl
theorem pct_eq (l : List Int) (hl : l.length ≤ 1000000) (p : Int) : percentile_Percentile l p = some (PctF l p) := by
  refine Tot.eq ?_
  unfold percentile_Percentile PctF clone_List_2
  refine Tot.ite (fun h => ?_) (fun h => ?_)
  · rw [if_neg (by simp at h; omega)]; exact Tot.some rfl
  · have hh : 1 ≤ p ∧ p ≤ 100 ∧ l.length ≤ 9000 := by simp at h; omega
    rw [if_pos hh]
    refine Tot.ite (fun h => ?_) (fun h => ?_)
    · rw [if_pos (by simp at h; simp [h])]; exact Tot.some rfl
    · have hn : 0 < l.length := by
        rcases Nat.eq_zero_or_pos l.length with h0 | h0
        · simp [h0] at h
        · exact h0
      rw [if_neg (by omega)]
      have hr := rk_lt hh.1 hh.2.1 hn
      have hr' : rk l.length p < (srt l).length := by rw [srt_len]; exact hr
      refine Tot.bind (Tot.chk (decide_eq_true (show l.length ≤ 4294967296 by omega)) (Tot.some ?_))
      refine Tot.bindOf (sort_eq l hl) (Tot.chk (by simp [srt_len]) ?_)
      refine Tot.bindIdx _ (rk_val hh.1 hh.2.1 hn hh.2.2) hr' (Tot.bindIdx _ (rk_val hh.1 hh.2.1 hn hh.2.2) hr' (Tot.some ?_))
      rw [List.getElem?_eq_getElem hr']
      rfl
theorem pct_ref (l : List Int) (hl : l.length ≤ 1000000) (p : Int) : exchangepointref40_Percentile l p = some (PctF l p) := by
  refine Tot.eq ?_
  unfold exchangepointref40_Percentile PctF
  refine Tot.ite (fun h => ?_) (fun h => ?_)
  · rw [if_neg (by simp at h; omega)]; exact Tot.some rfl
  · have hh : 1 ≤ p ∧ p ≤ 100 ∧ l.length ≤ 9000 := by simp at h; omega
    rw [if_pos hh]
    refine Tot.ite (fun h => ?_) (fun h => ?_)
    · rw [if_pos (by simp at h; simp [h])]; exact Tot.some rfl
    · have hn : 0 < l.length := by
        rcases Nat.eq_zero_or_pos l.length with h0 | h0
        · simp [h0] at h
        · exact h0
      rw [if_neg (by omega)]
      have hr := rk_lt hh.1 hh.2.1 hn
      have hr' : rk l.length p < (srt l).length := by rw [srt_len]; exact hr
      refine Tot.chk (decide_eq_true (show l.length ≤ 4294967296 by omega)) ?_
      refine Tot.bindOf (sort_eq l hl) (Tot.chk (by simp [srt_len]) ?_)
      refine Tot.bindIdx _ (rk_val hh.1 hh.2.1 hn hh.2.2) hr' (Tot.bindIdx _ (rk_val hh.1 hh.2.1 hn hh.2.2) hr' (Tot.some ?_))
      rw [List.getElem?_eq_getElem hr']
      rfl

-- the example


def bin (x : Int) : Prop := -1 ≤ x ∧ x ≤ 1125899906842624
instance (x : Int) : Decidable (bin x) := by unfold bin; infer_instance
def pr (x y : Int) : Prop := bin x ∧ bin y ∧ (x = -1 ↔ y = -1)
structure VOk (s : api_Series) : Prop where
  port : 1 ≤ s.fPort ∧ s.fPort ≤ 999
  sec : 1 ≤ s.fSeconds ∧ s.fSeconds ≤ 86400
  len : s.fIn.length = s.fOut.length
  most : s.fIn.length ≤ 9000
  all : ∀ i (h : i < s.fIn.length) (h' : i < s.fOut.length), pr s.fIn[i] s.fOut[i]

theorem bin_eq (x : Int) : percentile_bin x = some (decide (bin x)) := by
  unfold percentile_bin
  congr 1
  rw [Bool.eq_iff_iff, decide_eq_true_iff]
  unfold bin
  simp
theorem neqB {x y : Int} : ((x == (-1 : Int)) != (y == (-1 : Int))) = true ↔ ¬ (x = -1 ↔ y = -1) := by
  by_cases h : x = -1 <;> by_cases h' : y = -1 <;> simp [h, h', beq_eq_false_iff_ne.2]

theorem valid_eq (s : api_Series) (hl : s.fIn.length ≤ 1000000) : Tot (percentile_Valid s) (fun b => b = true ↔ VOk s) := by
  unfold percentile_Valid percentile_length
  refine Tot.jnR (fun m : Bool => m = true ↔ ¬ ((1 ≤ s.fPort ∧ s.fPort ≤ 999) ∧ (1 ≤ s.fSeconds ∧ s.fSeconds ≤ 86400) ∧ s.fIn.length = s.fOut.length ∧ s.fIn.length ≤ 9000)) (fun j hj => ?_) (fun m hm => ?_)
  · refine Tot.ite (fun h => hj _ (by simp at h ⊢; omega)) (fun h => Tot.bind (Tot.some (hj _ ?_)))
    simp only [Bool.or_eq_false_iff, decide_eq_false_iff_not] at h
    simp only [Bool.or_eq_true, Bool.not_eq_true', Bool.and_eq_false_iff, decide_eq_false_iff_not, decide_eq_true_eq, bne_iff_ne]
    omega
  · refine Tot.ite (fun h => Tot.some ⟨fun e => (by cases e), fun v => absurd ⟨v.port, v.sec, v.len, v.most⟩ (hm.1 h)⟩) (fun h => ?_)
    obtain ⟨h1, h2, h3, h4⟩ := Classical.byContradiction fun hc => by rw [hm.2 hc] at h; cases h
    refine Tot.bindLoop (fun st : Int => ∃ k : Nat, st = k ∧ k ≤ s.fIn.length ∧ ∀ i, i < k → ∀ (h : i < s.fIn.length) (h' : i < s.fOut.length), pr s.fIn[i] s.fOut[i]) (fun st => s.fIn.length - st.toNat) (fun x => match x with | .inl _ => ¬ VOk s | .inr _ => VOk s) ⟨0, rfl, Nat.zero_le _, fun i hi => by omega⟩ ?_ ?_
    · rintro st ⟨k, rfl, hk, ha⟩
      unfold percentile_Valid_L0
      refine Tot.ite (fun h => ?_) (fun h => ?_)
      · have hlt : k < s.fIn.length := by simpa using h
        have hlt' : k < s.fOut.length := by omega
        have hw := cast_succ_w hlt (by omega)
        refine Tot.jnR (fun m : Bool => m = true ↔ ¬ pr s.fIn[k] s.fOut[k]) (fun j hj => ?_) (fun m hm => ?_)
        · refine Tot.bindIdx k rfl hlt (Tot.bindOf (bin_eq _) (Tot.ite (fun c => hj _ ?_) (fun c => ?_)))
          · have : ¬ bin s.fIn[k] := by simpa using c
            exact ⟨fun _ hp => this hp.1, fun _ => rfl⟩
          · have c1 : bin s.fIn[k] := by simpa using c
            refine Tot.bindIdx k rfl hlt' (Tot.bindOf (bin_eq _) (Tot.ite (fun c => hj _ ?_) (fun c => ?_)))
            · have : ¬ bin s.fOut[k] := by simpa using c
              exact ⟨fun _ hp => this hp.2.1, fun _ => rfl⟩
            · have c2 : bin s.fOut[k] := by simpa using c
              refine Tot.bindIdx k rfl hlt (Tot.bindIdx k rfl hlt' (hj _ (neqB.trans ?_)))
              exact not_congr ⟨fun h => ⟨c1, c2, h⟩, fun h => h.2.2⟩
        · refine Tot.ite (fun c => Tot.out fun v => hm.1 c (v.all k hlt hlt')) (fun c => ?_)
          have hp : pr s.fIn[k] s.fOut[k] := Classical.byContradiction fun hc => by rw [hm.2 hc] at c; cases c
          refine Tot.next ⟨k + 1, hw, hlt, fun i hi h h' => ?_⟩ (by simp only [hw, Int.toNat_natCast]; omega)
          by_cases e : i = k
          · subst e; exact hp
          · exact ha i (by omega) h h'
      · have : k = s.fIn.length := by simp at h; omega
        exact Tot.out ⟨h1, h2, h3, h4, fun i h h' => ha i (by omega) h h'⟩
    · intro x hx
      cases x with
      | inl _ => exact Tot.some ⟨fun e => (by cases e), fun v => absurd v hx⟩
      | inr _ => exact Tot.some ⟨fun _ => hx, fun _ => rfl⟩
theorem valid_ref (s : api_Series) (hl : s.fIn.length ≤ 1000000) : Tot (exchangepointref40_Valid s) (fun b => b = true ↔ VOk s) := by
  unfold exchangepointref40_Valid
  refine Tot.ite (fun h => Tot.some ⟨fun e => (by cases e), fun v => ?_⟩) (fun h => ?_)
  · have h1 := v.port; have h2 := v.sec; have h3 := v.len; have h4 := v.most
    simp at h
    omega
  · have hh : (1 ≤ s.fPort ∧ s.fPort ≤ 999) ∧ (1 ≤ s.fSeconds ∧ s.fSeconds ≤ 86400) ∧ s.fIn.length = s.fOut.length ∧ s.fIn.length ≤ 9000 := by
      simp only [Bool.or_eq_false_iff, decide_eq_false_iff_not, bne_eq_false_iff_eq] at h
      omega
    obtain ⟨h1, h2, h3, h4⟩ := hh
    refine Tot.bindLoop (fun st : Int => ∃ k : Nat, st = k ∧ k ≤ s.fIn.length ∧ ∀ i, i < k → ∀ (h : i < s.fIn.length) (h' : i < s.fOut.length), pr s.fIn[i] s.fOut[i]) (fun st => s.fIn.length - st.toNat) (fun x => match x with | .inl _ => ¬ VOk s | .inr _ => VOk s) ⟨0, rfl, Nat.zero_le _, fun i hi => by omega⟩ ?_ ?_
    · rintro st ⟨k, rfl, hk, ha⟩
      unfold exchangepointref40_Valid_L0
      refine Tot.ite (fun h => ?_) (fun h => ?_)
      · have hlt : k < s.fIn.length := by simpa using h
        have hlt' : k < s.fOut.length := by omega
        have hw := cast_succ_w hlt (by omega)
        refine Tot.bindIdx k rfl hlt (Tot.bindIdx k rfl hlt' (Tot.ite (fun c => ?_) (fun c => ?_)))
        · refine Tot.out fun v => ?_
          have hp := v.all k hlt hlt'
          have hn : ((s.fIn[k] == (-1 : Int)) != (s.fOut[k] == (-1 : Int))) = false := Bool.eq_false_iff.2 fun hc => neqB.1 hc hp.2.2
          unfold pr bin at hp
          rw [hn] at c
          simp only [Bool.or_eq_true, decide_eq_true_eq, Bool.false_eq_true, or_false] at c
          omega
        · simp only [Bool.or_eq_false_iff, decide_eq_false_iff_not] at c
          have hp : pr s.fIn[k] s.fOut[k] := by
            refine ⟨⟨by omega, by omega⟩, ⟨by omega, by omega⟩, Classical.byContradiction fun hc => ?_⟩
            rw [neqB.2 hc] at c
            cases c.2
          refine Tot.next ⟨k + 1, hw, hlt, fun i hi h h' => ?_⟩ (by simp only [hw, Int.toNat_natCast]; omega)
          by_cases e : i = k
          · subst e; exact hp
          · exact ha i (by omega) h h'
      · have : k = s.fIn.length := by simp at h; omega
        exact Tot.out ⟨h1, h2, h3, h4, fun i h h' => ha i (by omega) h h'⟩
    · intro x hx
      cases x with
      | inl _ => exact Tot.some ⟨fun e => (by cases e), fun v => absurd v hx⟩
      | inr _ => exact Tot.some ⟨fun _ => hx, fun _ => rfl⟩

-- what is used

theorem VOk.goodIn {s : api_Series} (v : VOk s) : ∀ x ∈ s.fIn, good x := fun x hx => by
  obtain ⟨i, hi, rfl⟩ := List.getElem_of_mem hx
  have := (v.all i hi (by have := v.len; omega)).1
  unfold bin at this; unfold good; omega
theorem VOk.goodOut {s : api_Series} (v : VOk s) : ∀ x ∈ s.fOut, good x := fun x hx => by
  obtain ⟨i, hi, rfl⟩ := List.getElem_of_mem hx
  have := (v.all i (by have := v.len; omega) hi).2.1
  unfold bin at this; unfold good; omega
theorem rec_same : ∀ {l m : List Int}, l.length = m.length → (∀ i (h : i < l.length) (h' : i < m.length), l[i] = -1 ↔ m[i] = -1) → (rec' l).length = (rec' m).length
  | [], [], _, _ => rfl
  | x :: l, y :: m, hl, hp => by
    have ih := rec_same (l := l) (m := m) (by simpa using hl) (fun i h h' => by have := hp (i + 1) (by simp; omega) (by simp; omega); simpa using this)
    have h0 := hp 0 (by simp) (by simp)
    simp only [List.getElem_cons_zero] at h0
    unfold rec' at *
    by_cases h : x = -1
    · simp [h, h0.1 h, ih]
    · have h' : y ≠ -1 := fun e => h (h0.2 e)
      simp [h, h', ih]
  | [], _ :: _, h, _ => by simp at h
  | _ :: _, [], h, _ => by simp at h
theorem VOk.recs {s : api_Series} (v : VOk s) : (rec' s.fIn).length = (rec' s.fOut).length := rec_same v.len fun i h h' => (v.all i h h').2.2
noncomputable def rts (l : List Int) (s : Int) : List Int := (rec' l).map (fun b => rt b s)
theorem VOk.ratesIn {s : api_Series} (v : VOk s) : RatesF s.fIn s.fSeconds = (rts s.fIn s.fSeconds, 0) := by
  unfold RatesF rts; rw [if_pos v.sec, if_pos v.goodIn]
theorem VOk.ratesOut {s : api_Series} (v : VOk s) : RatesF s.fOut s.fSeconds = (rts s.fOut s.fSeconds, 0) := by
  unfold RatesF rts; rw [if_pos v.sec, if_pos v.goodOut]
theorem rts_len (l : List Int) (s : Int) : (rts l s).length = (rec' l).length := by unfold rts; rw [List.length_map]
theorem rts_nonneg {l : List Int} {s : Int} (hs : 1 ≤ s ∧ s ≤ 86400) (hg : ∀ x ∈ l, good x) : ∀ x ∈ rts l s, 0 ≤ x := fun x hx => by
  unfold rts rec' at hx
  obtain ⟨b, hb, rfl⟩ := List.mem_map.1 hx
  obtain ⟨h1, h2⟩ := List.mem_filter.1 hb
  rcases hg b h1 with h | h
  · simp [h] at h2
  · exact (rt_bounds ⟨h.1, h.2, hs⟩).1
open Classical in
noncomputable def UsedF (s : api_Series) (p : Int) : Int × Int :=
  if VOk s then (if (PctF (rts s.fIn s.fSeconds) p).2 = 0 then (max (PctF (rts s.fIn s.fSeconds) p).1 (PctF (rts s.fOut s.fSeconds) p).1, 0) else (0, (PctF (rts s.fIn s.fSeconds) p).2)) else (0, 1)
theorem pct_code {l m : List Int} (h : l.length = m.length) (p : Int) : (PctF l p).2 = (PctF m p).2 := by
  unfold PctF; rw [h]; split
  · split <;> rfl
  · rfl
theorem pct_nonneg {l : List Int} (h : ∀ x ∈ l, 0 ≤ x) (p : Int) : 0 ≤ (PctF l p).1 := by
  unfold PctF
  split
  · split
    · exact Int.le_refl _
    · show 0 ≤ ((srt l)[rk l.length p]?).getD 0
      cases hg : (srt l)[rk l.length p]? with
      | none => exact Int.le_refl _
      | some x => exact h x ((srt_perm l).mem_iff.1 (List.mem_of_getElem? hg))
  · exact Int.le_refl _
theorem maxI_eq (a b : Int) : maxI a b = max a b := by
  unfold maxI
  split
  · rw [Int.max_eq_right (by omega)]
  · rw [Int.max_eq_left (by omega)]

theorem used_ref (s : api_Series) (hl : s.fIn.length ≤ 1000000) (p : Int) : exchangepointref40_Used s p = some (UsedF s p) := by
  refine Tot.eq ?_
  unfold exchangepointref40_Used UsedF
  refine Tot.bindT (valid_ref s hl) fun b hb => ?_
  refine Tot.ite (fun h => ?_) (fun h => ?_)
  · have : ¬ VOk s := fun v => by rw [hb.2 v] at h; cases h
    rw [if_neg this]; exact Tot.some rfl
  · have v : VOk s := hb.1 (by simpa using h)
    rw [if_pos v]
    have l1 := v.len; have l2 := v.most
    refine Tot.bindOf (rates_ref _ (by omega) _) (Tot.bindOf (rates_ref _ (by omega) _) ?_)
    rw [v.ratesIn, v.ratesOut]
    have b1 : (rts s.fIn s.fSeconds).length ≤ 1000000 := by rw [rts_len]; exact Nat.le_trans (rec_len _) (by omega)
    have b2 : (rts s.fOut s.fSeconds).length ≤ 1000000 := by rw [rts_len]; exact Nat.le_trans (rec_len _) (by omega)
    refine Tot.bindOf (pct_ref _ b1 _) (Tot.ite (fun c => ?_) (fun c => ?_))
    · rw [if_neg (by simpa using c)]; exact Tot.some rfl
    · rw [if_pos (by simpa using c)]
      exact Tot.bindOf (pct_ref _ b2 _) (Tot.some (by rw [maxI_eq]))
theorem used_eq (s : api_Series) (hl : s.fIn.length ≤ 1000000) (p : Int) : percentile_Used s p = some (UsedF s p) := by
  refine Tot.eq ?_
  unfold percentile_Used UsedF
  refine Tot.bindT (valid_eq s hl) fun b hb => ?_
  refine Tot.ite (fun h => ?_) (fun h => ?_)
  · have : ¬ VOk s := fun v => by rw [hb.2 v] at h; cases h
    rw [if_neg this]; exact Tot.some rfl
  · have v : VOk s := hb.1 (by simpa using h)
    rw [if_pos v]
    have l1 := v.len; have l2 := v.most
    have b1 : (rts s.fIn s.fSeconds).length ≤ 1000000 := by rw [rts_len]; exact Nat.le_trans (rec_len _) (by omega)
    have b2 : (rts s.fOut s.fSeconds).length ≤ 1000000 := by rw [rts_len]; exact Nat.le_trans (rec_len _) (by omega)
    have n1 := pct_nonneg (rts_nonneg v.sec v.goodIn) p
    have hc := pct_code (l := rts s.fIn s.fSeconds) (m := rts s.fOut s.fSeconds) (by rw [rts_len, rts_len, v.recs]) p
    generalize hA : PctF (rts s.fIn s.fSeconds) p = A at n1 hc
    generalize hB : PctF (rts s.fOut s.fSeconds) p = Bq at hc
    refine Tot.bindLoop (fun st : Int × Int => (st.2 = 0 ∧ st.1 = 0) ∨ (st.2 = 1 ∧ A.2 = 0 ∧ st.1 = A.1) ∨ (st.2 = 2 ∧ A.2 = 0 ∧ st.1 = max A.1 Bq.1)) (fun st => 3 - st.2.toNat)
      (fun x => match x with | .inl e => A.2 ≠ 0 ∧ e = A.2 | .inr m => A.2 = 0 ∧ m = max A.1 Bq.1) (.inl ⟨rfl, rfl⟩) ?_ ?_
    · rintro ⟨m, i⟩ hI
      simp only at hI
      unfold percentile_Used_L0
      simp only
      rcases hI with ⟨rfl, rfl⟩ | ⟨rfl, h1, rfl⟩ | ⟨rfl, h1, rfl⟩
      · refine Tot.ite (fun _ => ?_) (fun c => by simp at c)
        refine Tot.bindIdx 0 rfl (by simp) ?_
        simp only [List.getElem_cons_zero]
        refine Tot.bindOf (rates_eq _ (by omega) _) ?_
        rw [v.ratesIn]
        refine Tot.ite (fun c => by simp at c) (fun _ => Tot.bindOf (pct_eq _ b1 _) ?_)
        simp only [hA]
        refine Tot.ite (fun c => Tot.out ⟨by simpa using c, rfl⟩) (fun c => Tot.next (.inr (.inl ⟨by rw [w64_id (by omega) (by omega)]; rfl, by simpa using c, ?_⟩)) (by rw [w64_id (by omega) (by omega)]; simp only; omega))
        rw [maxI_eq, Int.max_eq_right n1]
      · refine Tot.ite (fun _ => ?_) (fun c => by simp at c)
        refine Tot.bindIdx 1 rfl (by simp) ?_
        simp only [List.getElem_cons_succ, List.getElem_cons_zero]
        refine Tot.bindOf (rates_eq _ (by omega) _) ?_
        rw [v.ratesOut]
        refine Tot.ite (fun c => by simp at c) (fun _ => Tot.bindOf (pct_eq _ b2 _) ?_)
        simp only [hB]
        refine Tot.ite (fun c => ?_) (fun c => Tot.next (.inr (.inr ⟨by rw [w64_id (by omega) (by omega)]; rfl, h1, maxI_eq _ _⟩)) (by rw [w64_id (by omega) (by omega)]; simp only; omega))
        exfalso
        rw [← hc, h1] at c
        simp at c
      · refine Tot.ite (fun c => by simp at c) (fun _ => Tot.out ⟨h1, rfl⟩)
    · intro x hx
      cases x with
      | inl e => obtain ⟨h1, rfl⟩ := hx; rw [if_neg h1]; exact Tot.some rfl
      | inr m => obtain ⟨h1, rfl⟩ := hx; rw [if_pos h1]; exact Tot.some rfl

-- copies

abbrev zs : api_Series := ⟨0, 0, [], []⟩
/-- what a merge has done up to place k -/
def put1 (l : List Int) (i : Nat) (v : Int) : List Int := if i = l.length then l ++ [v] else l.set i v
open Classical in
noncomputable def PutF (s : api_Series) (at' x y : Int) : api_Series × Int :=
  if VOk s then (if at' < 0 ∨ (s.fIn.length : Int) < at' then (zs, 9) else
    (if VOk ⟨s.fPort, s.fSeconds, put1 s.fIn at'.toNat x, put1 s.fOut at'.toNat y⟩ then (⟨s.fPort, s.fSeconds, put1 s.fIn at'.toNat x, put1 s.fOut at'.toNat y⟩, 0) else (zs, 1))) else (zs, 1)
theorem put1_len (l : List Int) (i : Nat) (v : Int) : (put1 l i v).length ≤ l.length + 1 := by
  unfold put1; split <;> simp
theorem put1_app (l : List Int) (v w : Int) : ((l ++ [w]).set l.length v) = put1 l l.length v := by
  unfold put1
  rw [if_pos rfl, List.set_append_right _ _ (Nat.le_refl _)]
  simp
theorem PutF_small (s : api_Series) (at' x y : Int) : (PutF s at' x y).1.fIn.length ≤ 9001 ∧ (PutF s at' x y).1.fOut.length ≤ 9001 := by
  unfold PutF
  split
  · rename_i v
    have := v.most; have := v.len
    split
    · simp
    · split
      · have h1 := put1_len s.fIn at'.toNat x
        have h2 := put1_len s.fOut at'.toNat y
        simp only
        omega
      · simp
  · simp

theorem pr_snoc {l m : List Int} (hl : l.length = m.length) (h : ∀ i (h : i < l.length) (h' : i < m.length), pr l[i] m[i]) {x y : Int} (hp : pr x y) : ∀ i (h : i < (l ++ [x]).length) (h' : i < (m ++ [y]).length), pr (l ++ [x])[i] (m ++ [y])[i] := fun i h1 h2 => by
  by_cases hi : i < l.length
  · rw [List.getElem_append_left hi, List.getElem_append_left (by omega)]
    exact h i hi (by omega)
  · have : i = l.length := by simp at h1; omega
    subst this
    rw [List.getElem_append_right (Nat.le_refl _), List.getElem_append_right (by omega)]
    simpa using hp
theorem series_tot (d : exchangepointmill_Deck) (hd : DeckOk d) (p : Int) (hport : 1 ≤ p ∧ p ≤ 999) : Tot (exchangepointmill_Deck_Series d p) (fun x => VOk x.1 ∧ x.1.fIn.length ≤ 29 ∧ x.1.fPort = p ∧ DeckOk x.2) := by
  unfold exchangepointmill_Deck_Series
  refine Tot.bindT (next_tot d hd 3 (by omega) (by omega)) ?_
  rintro ⟨r1, d⟩ ⟨a1, b1, hd⟩
  simp only at a1 b1 hd ⊢
  have hsec : ∃ x, idx ([(300 : Int), (1 : Int), (60 : Int)] : List Int) r1 = some x ∧ 1 ≤ x ∧ x ≤ 86400 := by
    have : r1 = 0 ∨ r1 = 1 ∨ r1 = 2 := by omega
    rcases this with rfl | rfl | rfl
    · exact ⟨300, rfl, by omega, by omega⟩
    · exact ⟨1, rfl, by omega, by omega⟩
    · exact ⟨60, rfl, by omega, by omega⟩
  obtain ⟨sec, es, s1, s2⟩ := hsec
  refine Tot.bindOf es (Tot.bindT (next_tot d hd 3 (by omega) (by omega)) ?_)
  rintro ⟨r3, d⟩ ⟨a3, b3, hd⟩
  simp only at a3 b3 hd ⊢
  have hm : ∃ x, idx ([(1048576 : Int), (17179869184 : Int), (1125899906842625 : Int)] : List Int) r3 = some x ∧ 1 ≤ x ∧ x ≤ 1125899906842625 := by
    have : r3 = 0 ∨ r3 = 1 ∨ r3 = 2 := by omega
    rcases this with rfl | rfl | rfl
    · exact ⟨1048576, rfl, by omega, by omega⟩
    · exact ⟨17179869184, rfl, by omega, by omega⟩
    · exact ⟨1125899906842625, rfl, by omega, by omega⟩
  obtain ⟨mm, em, m1, m2⟩ := hm
  refine Tot.bindOf em (Tot.bindT (next_tot d hd 30 (by omega) (by omega)) ?_)
  rintro ⟨k0, d⟩ ⟨a5, b5, hd⟩
  simp only at a5 b5 hd ⊢
  refine Tot.bindLoop (fun s : Int × List Int × List Int × exchangepointmill_Deck => 0 ≤ s.1 ∧ s.1 + s.2.2.1.length ≤ 29 ∧ s.2.2.1.length = s.2.1.length ∧ DeckOk s.2.2.2 ∧ ∀ i (h : i < s.2.2.1.length) (h' : i < s.2.1.length), pr s.2.2.1[i] s.2.1[i]) (fun s => s.1.toNat)
    (fun x => x.2.2.length ≤ 29 ∧ x.2.2.length = x.2.1.length ∧ DeckOk x.1 ∧ ∀ i (h : i < x.2.2.length) (h' : i < x.2.1.length), pr x.2.2[i] x.2.1[i]) ⟨a5, by simp; omega, rfl, hd, fun i h => by simp at h⟩ ?_ ?_
  · rintro ⟨k, lo, li, d⟩ ⟨h1, h2, h3, hd, hp⟩
    simp only at h1 h2 h3 hd hp
    unfold exchangepointmill_Deck_Series_L0
    simp only
    refine Tot.ite (fun c => ?_) (fun c => ?_)
    · have hk : 0 < k := by simpa using c
      refine Tot.bindT (next_tot d hd mm (by omega) (by omega)) ?_
      rintro ⟨x, d⟩ ⟨x1, x2, hd⟩
      refine Tot.bindT (next_tot d hd mm (by omega) (by omega)) ?_
      rintro ⟨y, d⟩ ⟨y1, y2, hd⟩
      refine Tot.bindT (next_tot d hd 6 (by omega) (by omega)) ?_
      rintro ⟨z, d⟩ ⟨z1, z2, hd⟩
      simp only at x1 x2 y1 y2 z1 z2 hd ⊢
      refine Tot.jnR (fun m : Int × Int => pr m.1 m.2) (fun j hj => ?_) (fun m hm => ?_)
      · refine Tot.ite (fun _ => hj _ ?_) (fun _ => hj _ ?_)
        · unfold pr bin; simp
        · unfold pr bin; simp only; omega
      · refine Tot.chk (by simp [LIM]; omega) (Tot.chk (by simp [LIM]; omega) (Tot.next ⟨by simp only; rw [w64_id (by omega) (by omega)]; omega, by simp only [List.length_append, List.length_cons, List.length_nil]; rw [w64_id (by omega) (by omega)]; omega, by simp; omega, hd, pr_snoc h3 hp hm⟩ (by simp only; rw [w64_id (by omega) (by omega)]; omega)))
    · exact Tot.out ⟨by simp only; omega, h3, hd, hp⟩
  · rintro ⟨d, lo, li⟩ ⟨h1, h2, hd, hp⟩
    exact Tot.some ⟨⟨hport, ⟨s1, s2⟩, h2, by simp only at h1 ⊢; omega, hp⟩, h1, rfl, hd⟩

-- parts

end Go.Proofs.Ytimcphncaffenaa

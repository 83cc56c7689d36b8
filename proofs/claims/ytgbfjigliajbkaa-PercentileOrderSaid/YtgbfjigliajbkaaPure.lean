/- Chapter 40 in plain Lean: rates, percentiles, series. -/
import Derived.Test.YtgbfjigliajbkaaFns
import Derived.Test.YtgbfjigliajbkaaVcX
namespace Go.Proofs.Ytgbfjigliajbkaa
open Go Go.Vc
abbrev I64 (x : Int) : Prop := IntKind.i64.min ≤ x ∧ x ≤ IntKind.i64.max

theorem mod_eq (a m : Int) (hm : 0 < m) (hb : m ≤ 4611686018427387904) : exchangepointmill_Mod a m = some (a % m) := by
  obtain ⟨h0, h1⟩ := emod_lt' a hm
  unfold exchangepointmill_Mod
  refine chk_of (by simp; omega) ?_
  unfold jn
  rcases tmod_emod a hm with h | ⟨h, hn⟩
  · rw [h]
    exact ite_of_f (by simp; omega) rfl
  · rw [h]
    refine ite_of_t (by simp; omega) ?_
    rw [show a % m - m + m = a % m from by omega, w64_id (by omega) (by omega)]
def DeckOk (d : exchangepointmill_Deck) : Prop := 0 ≤ d.fAt ∧ d.fAt ≤ d.fL.length ∧ d.fL.length ≤ 9223372036854775807
theorem next_tot (d : exchangepointmill_Deck) (hd : DeckOk d) (n : Int) (hn : 0 < n) (hn' : n ≤ 4611686018427387904) : Tot (exchangepointmill_Deck_Next d n) (fun x => 0 ≤ x.1 ∧ x.1 < n ∧ DeckOk x.2) := by
  obtain ⟨h0, h1, h2⟩ := hd
  unfold exchangepointmill_Deck_Next
  refine Tot.ite (fun h => ?_) (fun h => ?_)
  · exact Tot.some ⟨Int.le_refl _, hn, h0, h1, h2⟩
  · obtain ⟨k, hk⟩ : ∃ k : Nat, d.fAt = k := ⟨d.fAt.toNat, by omega⟩
    have hlt : k < d.fL.length := by simp at h; omega
    obtain ⟨m0, m1⟩ := emod_lt' d.fL[k] hn
    rw [w64_id (n := d.fAt + 1) (by omega) (by omega), w64_id (n := d.fAt + 1 - 1) (by omega) (by omega)]
    refine Tot.bindIdx k (by omega) hlt (Tot.bindOf (mod_eq _ n hn hn') (Tot.some ⟨m0, m1, ?_⟩))
    exact ⟨by simp only; omega, by simp only; omega, h2⟩
theorem new_ok (l : List Int) (hl : l.length ≤ 9223372036854775807) : DeckOk ⟨l, 0⟩ := ⟨Int.le_refl _, by simp only; omega, hl⟩

/-- two lists of numbers that are one -/
theorem equal_self (l : List Int) (hl : l.length ≤ 4611686018427387904) : slices_Equal l l = some true := by
  refine Tot.eq ?_
  unfold slices_Equal
  refine Tot.ite (fun h => by simp at h) (fun _ => ?_)
  refine Tot.bindLoop (fun s : Int => ∃ k : Nat, s = k ∧ k ≤ l.length) (fun s => l.length - s.toNat) (fun x => x = .inr ()) ⟨0, rfl, Nat.zero_le _⟩ ?_ (fun x hx => by subst hx; exact Tot.some rfl)
  rintro s ⟨k, rfl, hk⟩
  unfold slices_Equal_L0
  refine Tot.ite (fun h => ?_) (fun h => Tot.out rfl)
  have hlt : k < l.length := by simpa using h
  refine Tot.bindIdx k rfl hlt (Tot.bindIdx k rfl hlt (Tot.ite (fun h => by simp at h) (fun _ => ?_)))
  have hw := cast_succ_w hlt hl
  exact Tot.next ⟨k + 1, hw, hlt⟩ (by simp only [hw, Int.toNat_natCast]; omega)
theorem same_ints (l : List Int) (hl : l.length ≤ 4611686018427387904) : exchangepointref23_SameInts l l = some true := equal_self l hl
theorem same_self (s : api_Series) (h1 : s.fIn.length ≤ 4611686018427387904) (h2 : s.fOut.length ≤ 4611686018427387904) : exchangepointref40_Same s s = some true := by
  refine Tot.eq ?_
  unfold exchangepointref40_Same
  refine Tot.jn (Tot.ite (fun _ => ?_) (fun h => by simp at h))
  refine Tot.bindOf (equal_self _ h1) (Tot.ite (fun _ => ?_) (fun h => by cases h))
  exact Tot.bindOf (equal_self _ h2) (Tot.some rfl)

-- rates

def rt (b s : Int) : Int := Int.tdiv (8 * b + s * 1000000 - 1) (s * 1000000)
def RateF (b s : Int) : Int × Int := if 0 ≤ b ∧ b ≤ 1125899906842624 ∧ 1 ≤ s ∧ s ≤ 86400 then (rt b s, 0) else (0, 1)
theorem rt_bounds {b s : Int} (h : 0 ≤ b ∧ b ≤ 1125899906842624 ∧ 1 ≤ s ∧ s ≤ 86400) : 0 ≤ rt b s ∧ rt b s ≤ 9007199254740992 := by
  unfold rt
  rw [Int.tdiv_eq_ediv_of_nonneg (by omega)]
  refine ⟨Int.ediv_nonneg (by omega) (by omega), ?_⟩
  refine Int.le_trans (Int.ediv_le_ediv (c := s * 1000000) (b := 9007199254740992 * (s * 1000000)) (by omega) ?_) ?_
  · have : 8 * b ≤ 9007199254740992 := by omega
    have h2 : (9007199254740992 : Int) * (s * 1000000) ≥ 9007199254740992 + s * 1000000 := by
      have : 1000000 ≤ s * 1000000 := by omega
      have h3 : (9007199254740992 - 1) * (s * 1000000) ≥ (9007199254740992 - 1) * 1000000 := Int.mul_le_mul_of_nonneg_left this (by omega)
      rw [Int.sub_mul] at h3
      omega
    omega
  · rw [Int.mul_ediv_cancel _ (by omega)]
    exact Int.le_refl _
theorem rt_mono {a b s : Int} (ha : 0 ≤ a) (hab : a ≤ b) (hs : 1 ≤ s) : rt a s ≤ rt b s := by
  unfold rt
  rw [Int.tdiv_eq_ediv_of_nonneg (by omega), Int.tdiv_eq_ediv_of_nonneg (by omega)]
  exact Int.ediv_le_ediv (by omega) (by omega)
theorem rate_val {b s : Int} (h : 0 ≤ b ∧ b ≤ 1125899906842624 ∧ 1 ≤ s ∧ s ≤ 86400) :
    w64 (Int.tdiv (w64 ((w64 ((w64 ((8 : Int) * b)) + (w64 (s * (1000000 : Int))))) - (1 : Int))) (w64 (s * (1000000 : Int)))) = rt b s := by
  have hb := rt_bounds h
  rw [w64_id (n := 8 * b) (by omega) (by omega), w64_id (n := s * 1000000) (by omega) (by omega), w64_id (n := 8 * b + s * 1000000) (by omega) (by omega), w64_id (n := 8 * b + s * 1000000 - 1) (by omega) (by omega)]
  exact w64_id (by unfold rt at hb; omega) (by unfold rt at hb; omega)
theorem rate_eq (b s : Int) : percentile_Rate b s = some (RateF b s) := by
  refine Tot.eq ?_
  unfold percentile_Rate percentile_length RateF
  refine Tot.jnR (fun m : Bool => m = true ↔ ¬ (0 ≤ b ∧ b ≤ 1125899906842624 ∧ 1 ≤ s ∧ s ≤ 86400)) (fun j hj => ?_) (fun m hm => ?_)
  · refine Tot.ite (fun h => hj _ (by simp at h ⊢; omega)) (fun h => Tot.bind (Tot.some (hj _ ?_)))
    simp only [Bool.or_eq_false_iff, decide_eq_false_iff_not] at h
    simp only [Bool.not_eq_true', Bool.and_eq_false_iff, decide_eq_false_iff_not]
    omega
  · refine Tot.ite (fun h => ?_) (fun h => ?_)
    · rw [if_neg (hm.1 h)]; exact Tot.some rfl
    · have hh : 0 ≤ b ∧ b ≤ 1125899906842624 ∧ 1 ≤ s ∧ s ≤ 86400 := Classical.byContradiction fun hc => by rw [hm.2 hc] at h; cases h
      rw [if_pos hh]
      refine Tot.chk (decide_eq_true ?_) (Tot.some (by rw [rate_val hh]))
      rw [w64_id (by omega) (by omega)]; omega
theorem rate_ref (b s : Int) : exchangepointref40_Rate b s = some (RateF b s) := by
  refine Tot.eq ?_
  unfold exchangepointref40_Rate RateF
  refine Tot.ite (fun h => ?_) (fun h => ?_)
  · rw [if_neg (by simp at h; omega)]; exact Tot.some rfl
  · have hh : 0 ≤ b ∧ b ≤ 1125899906842624 ∧ 1 ≤ s ∧ s ≤ 86400 := by simp at h; omega
    rw [if_pos hh]
    refine Tot.chk (decide_eq_true ?_) (Tot.some (by rw [rate_val hh]))
    rw [w64_id (by omega) (by omega)]; omega

def good (x : Int) : Prop := x = -1 ∨ (0 ≤ x ∧ x ≤ 1125899906842624)
def rec' (l : List Int) : List Int := l.filter (fun x => x != -1)
open Classical in
noncomputable def RatesF (l : List Int) (s : Int) : List Int × Int :=
  if 1 ≤ s ∧ s ≤ 86400 then (if ∀ x ∈ l, good x then ((rec' l).map (fun b => rt b s), 0) else ([], 1)) else ([], 1)
theorem rec_step {l : List Int} {k : Nat} (hk : k < l.length) : rec' (l.take (k + 1)) = rec' (l.take k) ++ (if l[k] = -1 then [] else [l[k]]) := by
  rw [take_succ_get (List.getElem?_eq_getElem hk)]
  unfold rec'
  rw [List.filter_append]
  congr 1
  by_cases h : l[k] = -1 <;> simp [h]
theorem good_step {l : List Int} {k : Nat} (hk : k < l.length) (h : ∀ x ∈ l.take k, good x) (hx : good l[k]) : ∀ x ∈ l.take (k + 1), good x := by
  rw [take_succ_get (List.getElem?_eq_getElem hk)]
  intro x hm
  rcases List.mem_append.1 hm with hm | hm
  · exact h x hm
  · rw [List.mem_singleton.1 hm]; exact hx
theorem rec_len (l : List Int) : (rec' l).length ≤ l.length := List.length_filter_le ..

theorem rates_eq (l : List Int) (hl : l.length ≤ 1000000) (s : Int) : percentile_Rates l s = some (RatesF l s) := by
  refine Tot.eq ?_
  unfold percentile_Rates percentile_length RatesF
  refine Tot.bind (Tot.some ?_)
  refine Tot.ite (fun h => ?_) (fun h => ?_)
  · rw [if_neg (by simp at h; omega)]; exact Tot.some rfl
  · have hs : 1 ≤ s ∧ s ≤ 86400 := by simp at h; omega
    rw [if_pos hs]
    refine Tot.bindLoop (fun st : Int × List Int => ∃ k : Nat, st.1 = k ∧ k ≤ l.length ∧ (∀ x ∈ l.take k, good x) ∧ st.2 = (rec' (l.take k)).map (fun b => rt b s)) (fun st => l.length - st.1.toNat)
      (fun x => match x with | .inl e => e = 1 ∧ ¬ ∀ x ∈ l, good x | .inr out => (∀ x ∈ l, good x) ∧ out = (rec' l).map (fun b => rt b s)) ⟨0, rfl, Nat.zero_le _, by simp, by simp [rec']⟩ ?_ ?_
    · rintro ⟨s1, out⟩ ⟨k, e, hk, hg, ho⟩
      simp only at e ho
      subst e
      unfold percentile_Rates_L0
      simp only
      refine Tot.ite (fun h => ?_) (fun h => ?_)
      · have hlt : k < l.length := by simpa using h
        have hw := cast_succ_w hlt (by omega)
        have hol : out.length ≤ k := by
          rw [ho, List.length_map]; exact Nat.le_trans (rec_len _) (by rw [List.length_take]; omega)
        refine Tot.jnR (fun m => good l[k] ∧ m = (rec' (l.take (k + 1))).map (fun b => rt b s)) (fun j hj => ?_) (fun m hm => ?_)
        · refine Tot.bindIdx k rfl hlt (Tot.ite (fun c => ?_) (fun c => ?_))
          · have hc : l[k] = -1 := by simpa using c
            exact hj _ ⟨.inl hc, by rw [rec_step hlt, if_pos hc, List.append_nil]; exact ho⟩
          · have hc : l[k] ≠ -1 := by simpa using c
            refine Tot.bindOf (rate_eq _ _) (Tot.ite (fun c2 => ?_) (fun c2 => ?_))
            · refine Tot.out ⟨?_, fun hall => ?_⟩
              · unfold RateF at c2 ⊢
                by_cases hr : 0 ≤ l[k] ∧ l[k] ≤ 1125899906842624 ∧ 1 ≤ s ∧ s ≤ 86400
                · rw [if_pos hr] at c2; simp at c2
                · rw [if_neg hr]
              · rcases hall _ (List.getElem_mem hlt) with h1 | h1
                · exact hc h1
                · unfold RateF at c2
                  rw [if_pos ⟨h1.1, h1.2, hs⟩] at c2
                  simp at c2
            · have hr : 0 ≤ l[k] ∧ l[k] ≤ 1125899906842624 ∧ 1 ≤ s ∧ s ≤ 86400 := Classical.byContradiction fun hr => by
                unfold RateF at c2; rw [if_neg hr] at c2; simp at c2
              refine Tot.chk (by simp [LIM]; omega) (hj _ ⟨.inr ⟨hr.1, hr.2.1⟩, ?_⟩)
              rw [rec_step hlt, if_neg hc, List.map_append, ← ho]
              unfold RateF
              rw [if_pos hr]
              rfl
        · exact Tot.next ⟨k + 1, hw, hlt, good_step hlt hg hm.1, hm.2⟩ (by simp only [hw, Int.toNat_natCast]; omega)
      · have : k = l.length := by simp at h; omega
        subst this
        rw [List.take_length] at hg ho
        exact Tot.out ⟨hg, ho⟩
    · intro x hx
      cases x with
      | inl e => obtain ⟨rfl, hx⟩ := hx; rw [if_neg hx]; exact Tot.some rfl
      | inr out => obtain ⟨hx, rfl⟩ := hx; rw [if_pos hx]; exact Tot.some rfl
theorem rates_ref (l : List Int) (hl : l.length ≤ 1000000) (s : Int) : exchangepointref40_Rates l s = some (RatesF l s) := by
  refine Tot.eq ?_
  unfold exchangepointref40_Rates RatesF
  refine Tot.ite (fun h => ?_) (fun h => ?_)
  · rw [if_neg (by simp at h; omega)]; exact Tot.some rfl
  · have hs : 1 ≤ s ∧ s ≤ 86400 := by simp at h; omega
    rw [if_pos hs]
    refine Tot.bindLoop (fun st : Int × List Int => ∃ k : Nat, st.1 = k ∧ k ≤ l.length ∧ (∀ x ∈ l.take k, good x) ∧ st.2 = (rec' (l.take k)).map (fun b => rt b s)) (fun st => l.length - st.1.toNat)
      (fun x => match x with | .inl e => e = 1 ∧ ¬ ∀ x ∈ l, good x | .inr out => (∀ x ∈ l, good x) ∧ out = (rec' l).map (fun b => rt b s)) ⟨0, rfl, Nat.zero_le _, by simp, by simp [rec']⟩ ?_ ?_
    · rintro ⟨s1, out⟩ ⟨k, e, hk, hg, ho⟩
      simp only at e ho
      subst e
      unfold exchangepointref40_Rates_L0
      simp only
      refine Tot.ite (fun h => ?_) (fun h => ?_)
      · have hlt : k < l.length := by simpa using h
        have hw := cast_succ_w hlt (by omega)
        have hol : out.length ≤ k := by
          rw [ho, List.length_map]; exact Nat.le_trans (rec_len _) (by rw [List.length_take]; omega)
        refine Tot.jnR (fun m => good l[k] ∧ m = (rec' (l.take (k + 1))).map (fun b => rt b s)) (fun j hj => ?_) (fun m hm => ?_)
        · refine Tot.bindIdx k rfl hlt (Tot.ite (fun c => ?_) (fun c => ?_))
          · have hc : l[k] = -1 := by simpa using c
            exact hj _ ⟨.inl hc, by rw [rec_step hlt, if_pos hc, List.append_nil]; exact ho⟩
          · have hc : l[k] ≠ -1 := by simpa using c
            refine Tot.bindOf (rate_ref _ _) (Tot.ite (fun c2 => ?_) (fun c2 => ?_))
            · refine Tot.out ⟨?_, fun hall => ?_⟩
              · unfold RateF at c2 ⊢
                by_cases hr : 0 ≤ l[k] ∧ l[k] ≤ 1125899906842624 ∧ 1 ≤ s ∧ s ≤ 86400
                · rw [if_pos hr] at c2; simp at c2
                · rw [if_neg hr]
              · rcases hall _ (List.getElem_mem hlt) with h1 | h1
                · exact hc h1
                · unfold RateF at c2
                  rw [if_pos ⟨h1.1, h1.2, hs⟩] at c2
                  simp at c2
            · have hr : 0 ≤ l[k] ∧ l[k] ≤ 1125899906842624 ∧ 1 ≤ s ∧ s ≤ 86400 := Classical.byContradiction fun hr => by
                unfold RateF at c2; rw [if_neg hr] at c2; simp at c2
              refine Tot.chk (by simp [LIM]; omega) (hj _ ⟨.inr ⟨hr.1, hr.2.1⟩, ?_⟩)
              rw [rec_step hlt, if_neg hc, List.map_append, ← ho]
              unfold RateF
              rw [if_pos hr]
              rfl
        · exact Tot.next ⟨k + 1, hw, hlt, good_step hlt hg hm.1, hm.2⟩ (by simp only [hw, Int.toNat_natCast]; omega)
      · have : k = l.length := by simp at h; omega
        subst this
        rw [List.take_length] at hg ho
        exact Tot.out ⟨hg, ho⟩
    · intro x hx
      cases x with
      | inl e => obtain ⟨rfl, hx⟩ := hx; rw [if_neg hx]; exact Tot.some rfl
      | inr out => obtain ⟨hx, rfl⟩ := hx; rw [if_pos hx]; exact Tot.some rfl
theorem ratesF_len (l : List Int) (s : Int) : (RatesF l s).1.length ≤ l.length := by
  unfold RatesF
  split
  · split
    · simp only [List.length_map]; exact rec_len l
    · simp
  · simp

-- percentiles

def rk (n : Nat) (p : Int) : Nat := ((p.toNat * n + 99) / 100) - 1
theorem rk_lt {n : Nat} {p : Int} (h1 : 1 ≤ p) (h2 : p ≤ 100) (hn : 0 < n) : rk n p < n := by
  unfold rk
  obtain ⟨q, hq⟩ : ∃ q : Nat, p = q := ⟨p.toNat, by omega⟩
  subst hq
  have : q * n ≤ 100 * n := Nat.mul_le_mul_right _ (by omega)
  simp only [Int.toNat_natCast]
  omega
theorem rk_up {n : Nat} {p : Int} (h1 : 1 ≤ p) (hn : 0 < n) : p.toNat * n ≤ 100 * (rk n p + 1) ∧ 100 * rk n p < p.toNat * n := by
  unfold rk
  have : 0 < p.toNat * n := Nat.mul_pos (by omega) hn
  omega
theorem rk_val {n : Nat} {p : Int} (h1 : 1 ≤ p) (h2 : p ≤ 100) (hn : 0 < n) (hn' : n ≤ 9000) : w64 ((w64 (Int.tdiv (w64 ((w64 (p * (n : Int))) + (99 : Int))) (100 : Int))) - (1 : Int)) = (rk n p : Int) := by
  obtain ⟨q, hq⟩ : ∃ q : Nat, p = q := ⟨p.toNat, by omega⟩
  subst hq
  have h3 : q * n ≤ 100 * n := Nat.mul_le_mul_right _ (by omega)
  have h4 : 0 < q * n := Nat.mul_pos (by omega) hn
  have e : (q : Int) * (n : Int) = ((q * n : Nat) : Int) := by simp
  unfold rk
  simp only [Int.toNat_natCast]
  rw [e]
  generalize q * n = m at h3 h4
  have hm : m ≤ 900000 := by omega
  rw [w64_id (n := (m : Int)) (by omega) (by omega), w64_id (n := (m : Int) + 99) (by omega) (by omega)]
  rw [Int.tdiv_eq_ediv_of_nonneg (by omega)]
  rw [w64_id (n := ((m : Int) + 99) / 100) (by omega) (by omega), w64_id (by omega) (by omega)]
  omega
def PctF (l : List Int) (p : Int) : Int × Int := if 1 ≤ p ∧ p ≤ 100 ∧ l.length ≤ 9000 then (if l.length = 0 then (0, 39) else ((srt l)[rk l.length p]?.getD 0, 0)) else (0, 1)
theorem sort_eq (l : List Int) (hl : l.length ≤ 1000000) : ext31_slices_Sort l = some (srt l) := by
  unfold ext31_slices_Sort
  rw [if_pos (by omega)]
  rfl
theorem pct_eq (l : List Int) (hl : l.length ≤ 1000000) (p : Int) : percentile_Percentile l p = some (PctF l p) := by
  refine Tot.eq ?_
  unfold percentile_Percentile PctF clone_List_2
  refine Tot.ite (fun h => ?_) (fun h => ?_)
  · rw [if_neg (by simp at h; omega)]; exact Tot.some rfl
  · have hh : 1 ≤ p ∧ p ≤ 100 ∧ l.length ≤ 9000 := by simp at h; omega
    rw [if_pos hh]
    refine Tot.ite (fun h => ?_) (fun h => ?_)
    · rw [if_pos (by simp at h; simp [h])]; exact Tot.some rfl
    · have hn : 0 < l.length := by
        rcases Nat.eq_zero_or_pos l.length with h0 | h0
        · simp [h0] at h
        · exact h0
      rw [if_neg (by omega)]
      have hr := rk_lt hh.1 hh.2.1 hn
      have hr' : rk l.length p < (srt l).length := by rw [srt_len]; exact hr
      refine Tot.bind (Tot.chk (decide_eq_true (show l.length ≤ 4294967296 by omega)) (Tot.some ?_))
      refine Tot.bindOf (sort_eq l hl) (Tot.chk (by simp [srt_len]) ?_)
      refine Tot.bindIdx _ (rk_val hh.1 hh.2.1 hn hh.2.2) hr' (Tot.bindIdx _ (rk_val hh.1 hh.2.1 hn hh.2.2) hr' (Tot.some ?_))
      rw [List.getElem?_eq_getElem hr']
      rfl
theorem pct_ref (l : List Int) (hl : l.length ≤ 1000000) (p : Int) : exchangepointref40_Percentile l p = some (PctF l p) := by
  refine Tot.eq ?_
  unfold exchangepointref40_Percentile PctF
  refine Tot.ite (fun h => ?_) (fun h => ?_)
  · rw [if_neg (by simp at h; omega)]; exact Tot.some rfl
  · have hh : 1 ≤ p ∧ p ≤ 100 ∧ l.length ≤ 9000 := by simp at h; omega
    rw [if_pos hh]
    refine Tot.ite (fun h => ?_) (fun h => ?_)
    · rw [if_pos (by simp at h; simp [h])]; exact Tot.some rfl
    · have hn : 0 < l.length := by
        rcases Nat.eq_zero_or_pos l.length with h0 | h0
        · simp [h0] at h
        · exact h0
      rw [if_neg (by omega)]
      have hr := rk_lt hh.1 hh.2.1 hn
      have hr' : rk l.length p < (srt l).length := by rw [srt_len]; exact hr
      refine Tot.chk (decide_eq_true (show l.length ≤ 4294967296 by omega)) ?_
      refine Tot.bindOf (sort_eq l hl) (Tot.chk (by simp [srt_len]) ?_)
      refine Tot.bindIdx _ (rk_val hh.1 hh.2.1 hn hh.2.2) hr' (Tot.bindIdx _ (rk_val hh.1 hh.2.1 hn hh.2.2) hr' (Tot.some ?_))
      rw [List.getElem?_eq_getElem hr']
      rfl

-- the example

def dn (k : Nat) : List Int := (List.range k).map fun i : Nat => 20 - (i : Int)
theorem dn_succ (k : Nat) : dn (k + 1) = dn k ++ [20 - (k : Int)] := by simp [dn, List.range_succ]
theorem dn20 : srt (dn 20) = [1, 2, 3, 4, 5, 6, 7, 8, 9, 10, 11, 12, 13, 14, 15, 16, 17, 18, 19, 20] := srt_uniq (by decide) (by decide)
theorem awake_eq : exchangepointlaw40_awake = some true := by
  refine Tot.eq ?_
  unfold exchangepointlaw40_awake
  refine Tot.bindLoop (fun s : Int × List Int => ∃ k : Nat, k ≤ 20 ∧ s.1 = 20 - (k : Int) ∧ s.2 = dn k) (fun s => s.1.toNat) (fun x => x = dn 20) ⟨0, by omega, rfl, rfl⟩ ?_ ?_
  · rintro ⟨s1, l⟩ ⟨k, hk, e, hl⟩
    simp only at e hl
    subst e; subst hl
    unfold exchangepointlaw40_awake_L0
    simp only
    refine Tot.ite (fun h => ?_) (fun h => ?_)
    · have hlt : k < 20 := by simp at h; omega
      rw [w64_id (by omega) (by omega)]
      refine Tot.chk (by simp [LIM, dn]; omega) (Tot.next ⟨k + 1, hlt, by simp only; omega, (dn_succ k).symm⟩ (by simp only; omega))
    · have : k = 20 := by simp at h; omega
      subst this
      exact Tot.out rfl
  · rintro _ rfl
    have hl : (dn 20).length = 20 := rfl
    refine Tot.bindOf (pct_eq _ (by rw [hl]; omega) _) (Tot.bindOf (rate_eq _ _) (Tot.some ?_))
    have e1 : PctF (dn 20) 95 = (19, 0) := by
      unfold PctF
      rw [hl, if_pos (by omega), if_neg (by omega), dn20]
      rfl
    rw [e1]
    have e2 : RateF 37500001 300 = (2, 0) := by decide
    rw [e2]
    rfl

-- the law of ranks

theorem rank_eq (a0 : List Int) {p0 : Prop} (_ : p0) (a1 : Int) {p1 : Prop} (_ : p1) : exchangepointlaw40_PercentileRank a0 a1 = some true := by
  refine Tot.eq ?_
  unfold exchangepointlaw40_PercentileRank
  refine Tot.ite (fun h => ?_) (fun h => ?_)
  · refine Tot.bindOf (pct_eq [] (by simp) 95) ?_
    exact Tot.jn (Tot.ite (fun _ => Tot.bindOf awake_eq (Tot.some rfl)) (fun c => by simp [PctF] at c))
  · have hl : 0 < a0.length ∧ a0.length ≤ 300 := by
      rcases Nat.eq_zero_or_pos a0.length with h0 | h0
      · simp [h0] at h
      · simp at h; omega
    obtain ⟨m0, m1⟩ := emod_lt' a1 (show (0 : Int) < 100 by omega)
    refine Tot.bindOf (mod_eq a1 100 (by omega) (by omega)) ?_
    rw [w64_id (n := 1 + a1 % 100) (by omega) (by omega)]
    generalize hq : 1 + a1 % 100 = q
    have q1 : 1 ≤ q := by omega
    have q2 : q ≤ 100 := by omega
    refine Tot.bindOf (pct_eq a0 (by omega) q) ?_
    have hr := rk_lt q1 q2 hl.1
    have hr' : rk a0.length q < (srt a0).length := by rw [srt_len]; exact hr
    have e : PctF a0 q = ((srt a0)[rk a0.length q], 0) := by
      unfold PctF
      rw [if_pos ⟨q1, q2, by omega⟩, if_neg (by omega), List.getElem?_eq_getElem hr']
      rfl
    rw [e]
    obtain ⟨u1, u2⟩ := rk_up (n := a0.length) q1 hl.1
    have hle := srt_le a0 hr'
    have hlt := srt_lt a0 hr'
    have hmem : (srt a0)[rk a0.length q] ∈ a0 := (srt_perm a0).mem_iff.1 (List.getElem_mem hr')
    generalize (srt a0)[rk a0.length q] = x at hle hlt hmem
    refine Tot.ite (fun c => by simp at c) (fun _ => ?_)
    refine Tot.bindLoop (fun s : Int × Int × Bool × Int => ∃ k : Nat, s.2.2.2 = k ∧ k ≤ a0.length ∧ s.1 = ((a0.take k).countP (fun y => decide (y ≤ x)) : Nat) ∧ s.2.1 = ((a0.take k).countP (fun y => decide (y < x)) : Nat) ∧ (s.2.2.1 = true ↔ x ∈ a0.take k)) (fun s => a0.length - s.2.2.2.toNat)
      (fun r : Int × Int × Bool => r.1 = (a0.countP (fun y => decide (y ≤ x)) : Nat) ∧ r.2.1 = (a0.countP (fun y => decide (y < x)) : Nat) ∧ r.2.2 = true) ⟨0, rfl, Nat.zero_le _, by simp, by simp, by simp⟩ ?_ ?_
    · rintro ⟨up, below, isIn, s4⟩ ⟨k, e4, hk, e1, e2, e3⟩
      simp only at e4 e1 e2 e3
      subst e4
      unfold exchangepointlaw40_PercentileRank_L0
      simp only
      refine Tot.ite (fun h => ?_) (fun h => ?_)
      · have hlt : k < a0.length := by simpa using h
        have hw := cast_succ_w hlt (by omega)
        have ht := take_succ_get (List.getElem?_eq_getElem hlt)
        have c1 : (a0.take k).countP (fun y => decide (y ≤ x)) ≤ k := Nat.le_trans List.countP_le_length (by rw [List.length_take]; omega)
        have c2 : (a0.take k).countP (fun y => decide (y < x)) ≤ k := Nat.le_trans List.countP_le_length (by rw [List.length_take]; omega)
        have d1 : (a0.take (k + 1)).countP (fun y => decide (y ≤ x)) = (a0.take k).countP (fun y => decide (y ≤ x)) + (if a0[k] ≤ x then 1 else 0) := by
          rw [ht, List.countP_append, List.countP_singleton]; simp
        have d2 : (a0.take (k + 1)).countP (fun y => decide (y < x)) = (a0.take k).countP (fun y => decide (y < x)) + (if a0[k] < x then 1 else 0) := by
          rw [ht, List.countP_append, List.countP_singleton]; simp
        refine Tot.bindIdx k rfl hlt (Tot.jnR (fun m : Int => m = ((a0.take (k + 1)).countP (fun y => decide (y ≤ x)) : Nat)) (fun j hj => ?_) (fun m hm => Tot.jnR (fun m : Int => m = ((a0.take (k + 1)).countP (fun y => decide (y < x)) : Nat)) (fun j hj => ?_) (fun m' hm' => ?_)))
        · refine Tot.ite (fun c => hj _ ?_) (fun c => hj _ ?_)
          · have : a0[k] ≤ x := by simpa using c
            rw [d1, if_pos this, e1, w64_id (by omega) (by omega)]; rfl
          · have : ¬ a0[k] ≤ x := by simpa using c
            rw [d1, if_neg this, e1]; rfl
        · refine Tot.ite (fun c => hj _ ?_) (fun c => hj _ ?_)
          · have : a0[k] < x := by simpa using c
            rw [d2, if_pos this, e2, w64_id (by omega) (by omega)]; rfl
          · have : ¬ a0[k] < x := by simpa using c
            rw [d2, if_neg this, e2]; rfl
        · refine Tot.next ⟨k + 1, hw, hlt, hm, hm', ?_⟩ (by simp only [hw, Int.toNat_natCast]; omega)
          simp only [Bool.or_eq_true, beq_iff_eq]
          rw [e3, ht, List.mem_append, List.mem_singleton]
          exact or_congr Iff.rfl eq_comm
      · have : k = a0.length := by simp at h; omega
        subst this
        rw [List.take_length] at e1 e2 e3
        exact Tot.out ⟨e1, e2, e3.2 hmem⟩
    · rintro ⟨up, below, isIn⟩ ⟨e1, e2, e3⟩
      simp only at e1 e2 e3 ⊢
      subst e1; subst e2; subst e3
      obtain ⟨qn, rfl⟩ : ∃ qn : Nat, q = qn := ⟨q.toNat, by omega⟩
      simp only [Int.toNat_natCast] at u1 u2
      have b1 : a0.countP (fun y => decide (y ≤ x)) ≤ 300 := Nat.le_trans List.countP_le_length hl.2
      have b2 : a0.countP (fun y => decide (y < x)) ≤ 300 := Nat.le_trans List.countP_le_length hl.2
      have b3 : qn * a0.length ≤ 100 * a0.length := Nat.mul_le_mul_right _ (by omega)
      have e : (qn : Int) * (a0.length : Int) = ((qn * a0.length : Nat) : Int) := by simp
      rw [e, w64_id (n := ((qn * a0.length : Nat) : Int)) (by omega) (by omega), w64_id (by omega) (by omega), w64_id (by omega) (by omega)]
      refine Tot.jn (Tot.ite (fun _ => Tot.bindOf awake_eq (Tot.some rfl)) (fun c => ?_))
      have : (true && decide (((qn * a0.length : Nat) : Int) ≤ (a0.countP (fun y => decide (y ≤ x)) : Int) * 100) && decide ((a0.countP (fun y => decide (y < x)) : Int) * 100 < ((qn * a0.length : Nat) : Int))) = true := by
        simp only [Bool.true_and, Bool.and_eq_true, decide_eq_true_eq]
        omega
      rw [this] at c; cases c
end Go.Proofs.Ytgbfjigliajbkaa

/- Chapter 38 in plain Lean: the code's map and the document's list. -/
import Derived.Test.YtpdfmjkfplgkfaaPureI
namespace Go.Proofs.Ytpdfmjkfplgkfaa
open Go Go.Vc

theorem key85 : KeyLaw keq85 := fun a b => by
  obtain ⟨a1, a2⟩ := a
  obtain ⟨b1, b2⟩ := b
  simp [keq85]
abbrev keyOf (c : api_Cell) : matrix_pair := matrix_pair.mk c.fFrom c.fTo
/-- a map and a sorted list of the same cells -/
structure Rel (m : List (matrix_pair × api_Cell)) (l : List api_Cell) : Prop where
  sorted : l.Pairwise cLt
  nodup : (mkeys m).Nodup
  own : ∀ k c, mget keq85 m k = some c → keyOf c = k
  mem : ∀ c, c ∈ l ↔ mget keq85 m (keyOf c) = some c
theorem rel_nil : Rel [] [] where
  sorted := List.Pairwise.nil
  nodup := List.Pairwise.nil
  own := fun k c h => by cases h
  mem := fun c => ⟨fun h => (by cases h), fun h => (by cases h)⟩
theorem cLt_trans {a b c : api_Cell} (h : cLt a b) (k : cLt b c) : cLt a c := by unfold cLt at *; omega
theorem cLt_irr (a : api_Cell) : ¬ cLt a a := by unfold cLt; omega
theorem cLt_key {a b : api_Cell} (h1 : ¬ cLt a b) (h2 : ¬ cLt b a) : keyOf a = keyOf b := by
  unfold cLt at *
  have e1 : a.fFrom = b.fFrom := by omega
  have e2 : a.fTo = b.fTo := by omega
  simp only [keyOf, e1, e2]
theorem key_cLt {a b : api_Cell} (h : keyOf a = keyOf b) : ¬ cLt a b := by
  simp only [keyOf, matrix_pair.mk.injEq] at h
  unfold cLt; omega
/-- the cell that put leaves at the key -/
def newL : List api_Cell → api_Cell → api_Cell
  | [], c => c
  | x :: l, c => if cLt x c then newL l c else if cLt c x then c else mixC c x
theorem newL_key (c : api_Cell) : ∀ l, keyOf (newL l c) = keyOf c
  | [] => rfl
  | x :: l => by
    unfold newL
    split
    · exact newL_key c l
    · split <;> rfl
theorem putL_mem (c : api_Cell) : ∀ {l : List api_Cell}, l.Pairwise cLt → ∀ x, x ∈ PutL l c ↔ (x ∈ l ∧ keyOf x ≠ keyOf c) ∨ x = newL l c
  | [], _, x => by simp [PutL, newL]
  | y :: l, hl, x => by
    rw [List.pairwise_cons] at hl
    have ih := putL_mem c hl.2 x
    unfold PutL newL
    by_cases h1 : cLt y c
    · rw [if_pos h1, if_pos h1, List.mem_cons, ih, List.mem_cons]
      have hk : keyOf y ≠ keyOf c := fun e => key_cLt e h1
      constructor
      · rintro (rfl | ⟨g1, g2⟩ | g)
        · exact .inl ⟨.inl rfl, hk⟩
        · exact .inl ⟨.inr g1, g2⟩
        · exact .inr g
      · rintro (⟨rfl | g1, g2⟩ | g)
        · exact .inl rfl
        · exact .inr (.inl ⟨g1, g2⟩)
        · exact .inr (.inr g)
    · rw [if_neg h1, if_neg h1]
      by_cases h2 : cLt c y
      · rw [if_pos h2, if_pos h2, List.mem_cons]
        constructor
        · rintro (rfl | g)
          · exact .inr rfl
          · refine .inl ⟨g, fun e => ?_⟩
            rcases List.mem_cons.1 g with rfl | g
            · exact key_cLt e.symm h2
            · exact key_cLt e.symm (cLt_trans h2 (hl.1 x g))
        · rintro (⟨g, _⟩ | g)
          · exact .inr g
          · exact .inl g
      · rw [if_neg h2, if_neg h2, List.mem_cons, List.mem_cons]
        have hky : keyOf y = keyOf c := cLt_key h1 h2
        constructor
        · rintro (rfl | g)
          · exact .inr rfl
          · exact .inl ⟨.inr g, fun e => key_cLt (hky.trans e.symm) (hl.1 x g)⟩
        · rintro (⟨rfl | g, g2⟩ | g)
          · exact (g2 hky).elim
          · exact .inr g
          · exact .inl g
theorem cLt_of_key {a a' b : api_Cell} (h : keyOf a = keyOf a') (hb : cLt a b) : cLt a' b := by
  simp only [keyOf, matrix_pair.mk.injEq] at h
  unfold cLt at *; omega
theorem cLt_of_key' {a b b' : api_Cell} (h : keyOf b = keyOf b') (hb : cLt a b) : cLt a b' := by
  simp only [keyOf, matrix_pair.mk.injEq] at h
  unfold cLt at *; omega
theorem putL_sorted (c : api_Cell) : ∀ {l : List api_Cell}, l.Pairwise cLt → (PutL l c).Pairwise cLt
  | [], _ => by simp [PutL]
  | y :: l, hl => by
    have hl' := hl
    rw [List.pairwise_cons] at hl
    unfold PutL
    by_cases h1 : cLt y c
    · rw [if_pos h1, List.pairwise_cons]
      refine ⟨fun x hx => ?_, putL_sorted c hl.2⟩
      rcases (putL_mem c hl.2 x).1 hx with ⟨g, _⟩ | g
      · exact hl.1 x g
      · exact cLt_of_key' (by rw [g]; exact (newL_key c l).symm) h1
    · rw [if_neg h1]
      by_cases h2 : cLt c y
      · rw [if_pos h2, List.pairwise_cons]
        refine ⟨fun x hx => ?_, hl'⟩
        rcases List.mem_cons.1 hx with rfl | hx
        · exact h2
        · exact cLt_trans h2 (hl.1 x hx)
      · rw [if_neg h2, List.pairwise_cons]
        exact ⟨fun x hx => cLt_of_key (cLt_key h1 h2) (hl.1 x hx), hl.2⟩
theorem newL_old (c old : api_Cell) (hk : keyOf old = keyOf c) : ∀ {l : List api_Cell}, l.Pairwise cLt → old ∈ l → newL l c = mixC c old
  | [], _, h => by cases h
  | y :: l, hl, h => by
    rw [List.pairwise_cons] at hl
    unfold newL
    rcases List.mem_cons.1 h with rfl | h
    · rw [if_neg (key_cLt hk), if_neg (key_cLt hk.symm)]
    · have h1 : cLt y c := cLt_of_key' hk (hl.1 old h)
      rw [if_pos h1]
      exact newL_old c old hk hl.2 h
theorem newL_none (c : api_Cell) : ∀ {l : List api_Cell}, (∀ x ∈ l, keyOf x ≠ keyOf c) → newL l c = c
  | [], _ => rfl
  | y :: l, h => by
    unfold newL
    split
    · exact newL_none c fun x hx => h x (List.mem_cons_of_mem _ hx)
    · split
      · rfl
      · rename_i h1 h2
        exact (h y List.mem_cons_self (cLt_key h1 h2)).elim
open Classical in
theorem rel_put {m : List (matrix_pair × api_Cell)} {l : List api_Cell} {c : api_Cell} (h : Rel m l) (hs : I64 c.fSamples) (hb : I64 c.fBytes) : ∃ m', matrix_put m c = some m' ∧ Rel m' (PutL l c) := by
  refine ⟨_, rfl, ?_⟩
  have hnew : (api_Cell.mk c.fFrom c.fTo (w64 (((mget keq85 m (keyOf c)).getD (api_Cell.mk 0 0 0 0)).fSamples + c.fSamples)) (w64 (((mget keq85 m (keyOf c)).getD (api_Cell.mk 0 0 0 0)).fBytes + c.fBytes))) = newL l c := by
    cases hg : mget keq85 m (keyOf c) with
    | none =>
      have hno : ∀ x ∈ l, keyOf x ≠ keyOf c := fun x hx e => by
        have := (h.mem x).1 hx
        rw [e, hg] at this
        cases this
      rw [newL_none c hno]
      unfold I64 IntKind.min IntKind.max at hs hb
      simp [IntKind.bits, IntKind.signed] at hs hb
      simp only [Option.getD_none, Int.zero_add]
      rw [w64_id (by omega) (by omega), w64_id (by omega) (by omega)]
    | some old =>
      have hk := h.own _ _ hg
      have hm : old ∈ l := (h.mem old).2 (by rw [hk]; exact hg)
      rw [newL_old c old hk h.sorted hm]
      simp only [Option.getD_some, mixC, Int.add_comm]
  show Rel (mput keq85 m (keyOf c) _) _
  rw [hnew]
  refine ⟨putL_sorted c h.sorted, mkeys_nodup key85 _ _ h.nodup, fun k x hx => ?_, fun x => ?_⟩
  · rw [mget_mput key85] at hx
    split at hx
    · rename_i e
      cases hx
      rw [e]; exact newL_key c l
    · exact h.own k x hx
  · rw [putL_mem c h.sorted, mget_mput key85]
    by_cases e : keyOf x = keyOf c
    · rw [if_pos e]
      constructor
      · rintro (⟨_, g⟩ | g)
        · exact (g e).elim
        · rw [g]
      · exact fun g => .inr (Option.some.inj g).symm
    · rw [if_neg e, ← h.mem]
      constructor
      · rintro (⟨g, _⟩ | g)
        · exact g
        · exact (e (by rw [g]; exact newL_key c l)).elim
      · exact fun g => .inl ⟨g, e⟩
end Go.Proofs.Ytpdfmjkfplgkfaa

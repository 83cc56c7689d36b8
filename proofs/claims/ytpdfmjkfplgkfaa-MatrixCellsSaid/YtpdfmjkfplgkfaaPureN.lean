/- Chapter 38 in plain Lean: both matrices of samples are one. -/
import Derived.Test.YtpdfmjkfplgkfaaPureM
namespace Go.Proofs.Ytpdfmjkfplgkfaa
open Go Go.Vc

theorem putL_num (c : api_Cell) (hc : cnum c) : ∀ l : List api_Cell, (∀ x ∈ l, cnum x) → ∀ x ∈ PutL l c, cnum x
  | [], _, x, hx => by
    have : x = c := by simpa [PutL] using hx
    rw [this]; exact hc
  | y :: l, h, x, hx => by
    unfold PutL at hx
    split at hx
    · rcases List.mem_cons.1 hx with rfl | hx
      · exact h _ List.mem_cons_self
      · exact putL_num c hc l (fun z hz => h z (List.mem_cons_of_mem _ hz)) x hx
    · split at hx
      · rcases List.mem_cons.1 hx with rfl | hx
        · exact hc
        · exact h x hx
      · rcases List.mem_cons.1 hx with rfl | hx
        · exact hc
        · exact h x (List.mem_cons_of_mem _ hx)
theorem putAll_num : ∀ (cs l : List api_Cell), (∀ x ∈ l, cnum x) → (∀ x ∈ cs, cnum x) → ∀ x ∈ putAll l cs, cnum x
  | [], _, h, _ => h
  | c :: cs, l, h, hc => putAll_num cs (PutL l c) (putL_num c (hc c List.mem_cons_self) l h) (fun x hx => hc x (List.mem_cons_of_mem _ hx))
theorem good_num {l : List api_Sample} {rs : List api_Rule} (h : l.all (good rs) = true) : ∀ c ∈ l.map (cellOf rs), cnum c := fun c hc => by
  obtain ⟨s, hs, rfl⟩ := List.mem_map.1 hc
  have := List.all_eq_true.1 h s hs
  unfold good at this
  simpa [cnum, cellOf] using this

theorem cells_eq (l : List api_Sample) (rs : List api_Rule) (hl : l.length ≤ 4611686018427387904) (hr : rs.length ≤ 4611686018427387904) : matrix_Cells l rs = some (CellsF l rs) := by
  refine Tot.eq ?_
  unfold matrix_Cells CellsF
  refine Tot.bindT (sample_valid l hl) fun b hb => ?_
  by_cases hok : Ok l ∧ l.length ≤ 1000
  · have : b = true := hb.2 hok
    subst this
    rw [if_pos hok]
    refine Tot.iteF rfl (Tot.bindT (members_tot rs hr) fun p10 hm => Tot.bindT (cells_loop l rs p10 hm hok.2 hok.1.1) fun x hx => ?_)
    cases x with
    | inl u =>
      refine Tot.some ?_
      rw [if_neg (by rw [show l.all (owned rs) = false from hx]; simp)]
    | inr y =>
      obtain ⟨h1, h2, h3, h4⟩ := hx
      rw [if_pos h1]
      simp only
      rw [h2]
      cases hg : l.all (good rs) with
      | false => exact Tot.iteT rfl (Tot.some (by simp [errOf]))
      | true =>
        refine Tot.iteF rfl (Tot.iteF (by simp; omega) (Tot.bindOf (listed_eq h4 (putAll_num _ _ (fun _ h => by cases h) (good_num hg)) (by omega)) (Tot.some (by simp))))
  · have : b = false := by
      cases b with
      | false => rfl
      | true => exact (hok (hb.1 rfl)).elim
    subst this
    rw [if_neg hok]
    exact Tot.iteT rfl (Tot.some rfl)
end Go.Proofs.Ytpdfmjkfplgkfaa

/- Chapter 38 in plain Lean: the matrix of samples, sums of matrices, sums of cells (MatrixCells). -/
import Derived.Test.YtpdfmjkfplgkfaaPureR
namespace Go.Proofs.Ytpdfmjkfplgkfaa
open Go Go.Vc

theorem cellsF_len (l : List api_Sample) (rs : List api_Rule) : (CellsF l rs).1.length ≤ 1000 := by
  unfold CellsF
  split
  · rename_i h
    split
    · split
      · have := putAll_len (l.map (cellOf rs)) []
        simp only [List.length_nil, List.length_map] at this
        have h2 := h.2
        show (putAll [] (l.map (cellOf rs))).length ≤ 1000
        omega
      · simp
    · simp
  · simp
theorem addF_len (a b : List api_Cell) : (AddF a b).1.length ≤ 3000 := by
  unfold AddF
  split
  · rename_i h
    split
    · have := putAll_len b a
      have h1 := (validF_iff.1 h.1).2
      have h2 := (validF_iff.1 h.2).2
      show (putAll a b).length ≤ 3000
      omega
    · simp
  · simp
theorem cells_L1 (a2 : List api_Rule) (x100 : List api_Sample) (r101 r102 : List api_Rule) (h0 : a2.length ≤ 60) (hx : x100.length ≤ 1000) (h1 : r101.length ≤ 60) (h2 : r102.length ≤ 60) :
    loop (exchangepointlaw38_MatrixCells_L1 a2 x100 r101 r102) (0 : Int) = some (.inr ()) := by
  unfold exchangepointlaw38_MatrixCells_L1
  generalize hLL : ([r101, a2, ((r102.take 4).drop 0)] : List (List api_Rule)) = LL
  have hall : ∀ x ∈ LL, x.length ≤ 60 := by
    rw [← hLL]
    intro x hx
    simp only [List.mem_cons, List.not_mem_nil, or_false] at hx
    rcases hx with rfl | rfl | rfl
    · exact h1
    · exact h0
    · rw [List.drop_zero, List.length_take]; omega
  have hLn : LL.length = 3 := by rw [← hLL]; rfl
  refine Tot.eq (Tot.rng 3 (fun k (_ : Unit) => ((k : Nat) : Int)) (fun _ _ => True) _ () rfl trivial (fun k b hk _ => ?_) (fun b _ => ?_))
  · have hw : w64 ((k : Int) + 1) = ((k + 1 : Nat) : Int) := by rw [w64_id (by omega) (by omega)]; rfl
    refine Tot.iteT (by simp; omega) (Tot.bindIdx k rfl (by omega) ?_)
    have hy := hall _ (List.getElem_mem (show k < LL.length by omega))
    generalize LL[k] = y at hy
    refine Tot.bindOf (cells_eq x100 y (by omega) (by omega)) (Tot.bindOf (ref_cells x100 y (by omega) (by omega)) (Tot.jn (Tot.iteF (by simp) (Tot.bindOf (same_self _ (by have := cellsF_len x100 y; omega)) (Tot.iteF rfl (Tot.step () hw trivial))))))
  · exact Tot.iteF (by simp; omega) (Tot.last rfl)
theorem cells_L3 (a5 : Int) (x : List api_Cell) (hx : x.length ≤ 1000) : loop (exchangepointlaw38_MatrixCells_L3 a5 x) (0 : Int) = some (.inr ()) := by
  refine Tot.eq (Tot.rng 3 (fun k (_ : Unit) => ((k : Nat) : Int)) (fun _ _ => True) _ () rfl trivial (fun k b hk _ => ?_) (fun b _ => ?_))
  · unfold exchangepointlaw38_MatrixCells_L3
    have hw : w64 ((k : Int) + 1) = ((k + 1 : Nat) : Int) := by rw [w64_id (by omega) (by omega)]; rfl
    refine Tot.iteT (by simp; omega) (Tot.bindIdx k rfl (by simpa using hk) ?_)
    refine Tot.bindOf (from_eq _ _ (by omega)) (Tot.bindOf (rfrom_eq _ _ (by omega)) (Tot.bindOf (to_eq _ _ (by omega)) (Tot.bindOf (rto_eq _ _ (by omega)) (Tot.iteF (by simp) (Tot.step () hw trivial)))))
  · unfold exchangepointlaw38_MatrixCells_L3
    exact Tot.iteF (by simp) (Tot.last rfl)
theorem cells_law (a0 : List api_Cell) {p0 : Prop} (_ : p0) (a1 : List api_Sample) {p1 : Prop} (_ : p1) (a2 : List api_Rule) {p2 : Prop} (_ : p2) (a3 : List Int) (h3 : (∀ y ∈ a3, I64 y) ∧ a3.length ≤ maxLen) (a4 : Int) {p4 : Prop} (_ : p4) (a5 : Int) {p5 : Prop} (_ : p5) :
    exchangepointlaw38_MatrixCells a0 a1 a2 a3 a4 a5 = some true := by
  refine Tot.eq ?_
  unfold exchangepointlaw38_MatrixCells exchangepointmill_New
  refine Tot.ite (fun _ => Tot.bindOf awake_eq (Tot.some rfl)) (fun c => ?_)
  have c0 : a0.length ≤ 100 := by simp at c; omega
  have c1 : a1.length ≤ 100 := by simp at c; omega
  have c2 : a2.length ≤ 60 := by simp at c; omega
  refine Tot.bind (Tot.some (Tot.bindT (samples_tot _ (new_ok a3 h3.2)) ?_))
  rintro ⟨s1, d⟩ ⟨hf1, hd⟩
  refine Tot.bindT (samples_tot d hd) ?_
  rintro ⟨s2, d⟩ ⟨hf2, _⟩
  have l1 := hf1.len
  have l2 := hf2.len
  simp only at l1 l2 ⊢
  refine Tot.bindOf (rules_eq a4) (Tot.bindOf (ref_cells s1 _ (by omega) (by simp [rules_len])) ?_)
  refine Tot.bindRng 3 (fun k (_ : Unit) => ((k : Nat) : Int)) (fun _ _ => True) (fun x => x = .inr ()) () rfl trivial (fun k b hk _ => ?_) (fun b _ => ?_) (fun x hx => ?_)
  · unfold exchangepointlaw38_MatrixCells_L0
    simp only
    generalize hLL : ([s1, s2, a1] : List (List api_Sample)) = LL
    have hall : ∀ x ∈ LL, x.length ≤ 100 := by
      rw [← hLL]
      intro x hx
      simp only [List.mem_cons, List.not_mem_nil, or_false] at hx
      rcases hx with rfl | rfl | rfl <;> omega
    have hLn : LL.length = 3 := by rw [← hLL]; rfl
    have hw : w64 ((k : Int) + 1) = ((k + 1 : Nat) : Int) := by rw [w64_id (by omega) (by omega)]; rfl
    refine Tot.iteT (by simp; omega) (Tot.bindIdx k rfl (by omega) ?_)
    have hy := hall _ (List.getElem_mem (show k < LL.length by omega))
    generalize LL[k] = y at hy
    refine Tot.bindOf (rules_eq a4) (Tot.bindOf (rules_eq a4) (Tot.chk (by simp [rules_len]) (Tot.bindOf (cells_L1 a2 y _ _ c2 (by omega) (by simp [rules_len]) (by simp [rules_len])) (Tot.step () hw trivial))))
  · unfold exchangepointlaw38_MatrixCells_L0
    exact Tot.iteF (by simp) (Tot.last rfl)
  · subst hx
    refine Tot.bindOf (rules_eq _) (Tot.bindOf (ref_cells s2 _ (by omega) (by simp [rules_len])) ?_)
    have q1 := cellsF_len s1 (RulesL a4)
    have q2 := cellsF_len s2 (RulesL (w64 (a4 + 1)))
    generalize CellsF s1 (RulesL a4) = u at q1
    generalize CellsF s2 (RulesL (w64 (a4 + 1))) = v at q2
    refine Tot.bindRng 3 (fun k (_ : Unit) => ((k : Nat) : Int)) (fun _ _ => True) (fun x => x = .inr ()) () rfl trivial (fun k b hk _ => ?_) (fun b _ => ?_) (fun x hx => by subst hx; exact Tot.bindOf awake_eq (Tot.some rfl))
    · unfold exchangepointlaw38_MatrixCells_L2
      generalize hLL : ([u.1, v.1, a0] : List (List api_Cell)) = LL
      have hall : ∀ x ∈ LL, x.length ≤ 1000 := by
        rw [← hLL]
        intro x hx
        simp only [List.mem_cons, List.not_mem_nil, or_false] at hx
        rcases hx with rfl | rfl | rfl <;> omega
      have hLn : LL.length = 3 := by rw [← hLL]; rfl
      have hw : w64 ((k : Int) + 1) = ((k + 1 : Nat) : Int) := by rw [w64_id (by omega) (by omega)]; rfl
      refine Tot.iteT (by simp; omega) (Tot.jnR (fun _ => True) (fun j hj => Tot.bindIdx k rfl (by omega) ?_) (fun _ _ => Tot.step () hw trivial))
      have hy := hall _ (List.getElem_mem (show k < LL.length by omega))
      generalize LL[k] = y at hy
      refine Tot.bindOf (valid_eq y (by omega)) (Tot.bindOf (rvalid_eq y (by omega)) (Tot.iteF (by simp) ?_))
      refine Tot.bindOf (add_eq y u.1 (by omega) (by omega)) (Tot.bindOf (radd_eq y u.1 (by omega) (by omega)) (Tot.jnR (fun m => m = false) (fun j2 hj2 => ?_) (fun m hm => ?_)))
      · exact Tot.iteF (by simp) (Tot.bindOf (same_self _ (by have := addF_len y u.1; omega)) (hj2 _ rfl))
      · subst hm
        refine Tot.iteF rfl (Tot.bindOf (rvalid_eq y (by omega)) (Tot.ite (fun _ => hj () trivial) (fun _ => ?_)))
        refine Tot.bindOf (total_eq y (by omega)) (Tot.bindOf (rtotal_eq y (by omega)) (Tot.iteF (by simp) (Tot.bindOf (cells_L3 a5 y hy) (hj () trivial))))
    · unfold exchangepointlaw38_MatrixCells_L2
      exact Tot.iteF (by simp) (Tot.last rfl)
end Go.Proofs.Ytpdfmjkfplgkfaa

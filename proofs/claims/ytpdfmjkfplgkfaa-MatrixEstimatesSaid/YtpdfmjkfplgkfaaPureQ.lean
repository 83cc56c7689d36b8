/- Chapter 38 in plain Lean: the example, and what a cell stands for (MatrixEstimates). -/
import Derived.Test.YtpdfmjkfplgkfaaPureP
namespace Go.Proofs.Ytpdfmjkfplgkfaa
open Go Go.Vc

def exL : List api_Sample := [api_Sample.mk 0 1 1 1 2 100, api_Sample.mk 0 2 9 1 2 300]
theorem ex_fine : Fine exL where
  ok := ⟨fun s hs => by
      simp only [exL, List.mem_cons, List.not_mem_nil, or_false] at hs
      rcases hs with rfl | rfl <;> (unfold sOk; decide), by
      simp [exL, after]⟩
  len := by decide
  all := fun s hs => by
    simp only [exL, List.mem_cons, List.not_mem_nil, or_false] at hs
    rcases hs with rfl | rfl <;> (unfold dealt; decide)
theorem ex_cells : CellsF exL (RulesL 0) = ([api_Cell.mk 101 102 2 400], 0) := by
  rw [cells_fine 0 ex_fine]
  have e1 : ownD (RulesL 0) 1 = 101 := by rw [ownD_rules 0 (by decide) (by decide), w64_id (by decide) (by decide)]; rfl
  have e2 : ownD (RulesL 0) 2 = 102 := by rw [ownD_rules 0 (by decide) (by decide), w64_id (by decide) (by decide)]; rfl
  simp only [exL, List.map_cons, List.map_nil, cellOf, e1, e2, putAll, List.foldl_cons, List.foldl_nil, PutL, mixC]
  rw [if_neg (by unfold cLt; decide), if_neg (by unfold cLt; decide)]
  simp only [w64_id (n := 1 + 1) (by decide) (by decide), w64_id (n := 300 + 100) (by decide) (by decide)]
  rfl
theorem ex_est : EstF (api_Cell.mk 101 102 2 400) 2 1000 = (200000, 0) := by
  unfold EstF
  rw [if_pos ⟨by decide, by decide, by decide, by decide, by decide, by decide, by decide, by decide⟩, if_neg (by decide)]
  rfl
theorem awake_eq : exchangepointlaw38_awake = some true := by
  unfold exchangepointlaw38_awake
  refine bind_of (rules_eq 0) (bind_of (cells_eq exL _ (by decide) (by decide)) ?_)
  rw [ex_cells]
  refine ite_of_f rfl (bind_of (idx_get (k := 0) rfl) (bind_of (est_tot _ _ _) (bind_of (idx_get (k := 0) rfl) ?_)))
  rw [ex_est]
  rfl

theorem estimates_L1 (a0 : api_Cell) (r1 r2 : Int) (x81 : List Int) (h2 : x81.length = 2) : loop (exchangepointlaw38_MatrixEstimates_L1 a0 r1 r2 x81) (0 : Int) = some (.inr ()) := by
  refine Tot.eq (Tot.rng 2 (fun k (_ : Unit) => ((k : Nat) : Int)) (fun _ _ => True) _ () rfl trivial (fun k b hk _ => ?_) (fun b _ => ?_))
  · unfold exchangepointlaw38_MatrixEstimates_L1
    have hw : w64 ((k : Int) + 1) = ((k + 1 : Nat) : Int) := by rw [w64_id (by omega) (by omega)]; rfl
    refine Tot.iteT (by simp; omega) (Tot.bindIdx k rfl (by simpa using hk) ?_)
    refine Tot.bindIdx 0 rfl (by omega) (Tot.bindIdx 1 rfl (by omega) (Tot.bindOf (est_tot _ _ _) ?_))
    refine Tot.bindIdx 0 rfl (by omega) (Tot.bindIdx 1 rfl (by omega) (Tot.bindOf (ref_est _ _ _) ?_))
    exact Tot.iteF (by simp) (Tot.step () hw trivial)
  · unfold exchangepointlaw38_MatrixEstimates_L1
    exact Tot.iteF (by simp) (Tot.last rfl)
theorem estimates_law (a0 : api_Cell) {p0 : Prop} (_ : p0) (a1 : Int) {p1 : Prop} (_ : p1) (a2 : Int) {p2 : Prop} (_ : p2) : exchangepointlaw38_MatrixEstimates a0 a1 a2 = some true := by
  refine Tot.eq ?_
  unfold exchangepointlaw38_MatrixEstimates
  refine Tot.bindOf (mod_eq _ 30 (by decide) (by decide)) (Tot.bindOf (mod_eq _ 2147483648 (by decide) (by decide)) (Tot.bindOf (mod_eq _ 40 (by decide) (by decide)) (Tot.bindOf (mod_eq _ 2199023255552 (by decide) (by decide)) (Tot.bindOf (mod_eq _ 2097152 (by decide) (by decide)) (Tot.bindOf (mod_eq _ 3000 (by decide) (by decide)) ?_)))))
  refine Tot.bindRng 3 (fun k (_ : Unit) => ((k : Nat) : Int)) (fun _ _ => True) (fun x => x = .inr ()) () rfl trivial (fun k b hk _ => ?_) (fun b _ => ?_) (fun x hx => ?_)
  · unfold exchangepointlaw38_MatrixEstimates_L0
    have hw : w64 ((k : Int) + 1) = ((k + 1 : Nat) : Int) := by rw [w64_id (by omega) (by omega)]; rfl
    refine Tot.iteT (by simp; omega) (Tot.bindIdx k rfl (by simpa using hk) (Tot.bindOf (estimates_L1 _ _ _ _ ?_) (Tot.step () hw trivial)))
    have e : k = 0 ∨ k = 1 ∨ k = 2 := by omega
    rcases e with rfl | rfl | rfl <;> rfl
  · unfold exchangepointlaw38_MatrixEstimates_L0
    exact Tot.iteF (by simp) (Tot.last rfl)
  · subst hx
    exact Tot.bindOf awake_eq (Tot.some rfl)
end Go.Proofs.Ytpdfmjkfplgkfaa

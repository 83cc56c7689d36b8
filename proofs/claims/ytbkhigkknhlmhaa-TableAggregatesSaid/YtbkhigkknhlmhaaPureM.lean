/- The law of aggregating in plain Lean. -/
import Derived.Test.YtbkhigkknhlmhaaPureL
namespace Go.Proofs.Ytbkhigkknhlmhaa
open Go Go.Vc

/-- the law -/
theorem aggregates_law (a0 : List Int) (h0 : (∀ y ∈ a0, I64 y) ∧ a0.length ≤ maxLen) : exchangepointlaw03_TableAggregates a0 = some true := by
  refine Tot.eq ?_
  unfold exchangepointlaw03_TableAggregates
  refine Tot.bindOf (show exchangepointmake_New a0 = some ⟨a0, 0⟩ from rfl) (Tot.bindT (table_tot _ (new_ok a0 (by have := h0.2; unfold maxLen at this; omega))) ?_)
  rintro ⟨t, d⟩ ⟨⟨ht, hl⟩, hd⟩
  simp only at ht hl hd ⊢
  obtain ⟨r, r1, r2, r3, r4, r5⟩ := agg_tot ht (by omega)
  have := agg_len r
  refine Tot.jn (Tot.bindOf r4 (Tot.bindOf r5 (Tot.bindOf (same_self _ (by omega)) (Tot.iteT rfl (Tot.bindOf awake_eq (Tot.some rfl))))))
end Go.Proofs.Ytbkhigkknhlmhaa

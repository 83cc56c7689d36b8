/- The law of long lists of changes, in plain Lean. -/
import Derived.Test.YtkhjkjojjdkidaaGreatDoorPureZC
namespace Go.Proofs.YtkhjkjojjdkidaaGreatDoor
open Go Go.Vc
theorem B5b (a0:List Int) (h0:(∀ y∈a0,I64 y)∧a0.length≤maxLen) (a1:Int) {p1:Prop} (_:p1):A03 a0 a1=some true:=by
 refine Tot.eq ?_
 unfold A03
 refine B58 a0 h0.2 a1 (b:=250) (m:=300) (by decide) (by decide) fun r h => ?_
 refine Tot.bindOf (B36 h) ?_
 refine Tot.bindOf (B55 h) ?_
 refine Tot.jn (Tot.iteT rfl ?_)
 refine Tot.bindOf (B41 (Nat.le_trans (B42 h) (by decide)) (B59 h)) ?_
 refine Tot.iteT rfl ?_
 refine Tot.bindOf B5a ?_
 exact Tot.some rfl
end Go.Proofs.YtkhjkjojjdkidaaGreatDoor

/- The law of long lists of changes, in plain Lean. -/
import Derived.Test.YtkhjkjojjdkidaaGreatDoorPureZC
namespace Go.Proofs.YtkhjkjojjdkidaaGreatDoor
open Go Go.Vc
theorem B5e (a0:List Int) (h0:(∀ y∈a0,I64 y)∧a0.length≤maxLen) (a1:Int) {p1:Prop} (_:p1):A03 a0 a1=some true:=by
 refine Tot.eq ?_
 unfold A03
 refine B5b a0 h0.2 a1 (b:=250) (m:=300) (by decide) (by decide) fun r h => ?_
 refine Tot.bindOf (B39 h) ?_
 refine Tot.bindOf (B58 h) ?_
 refine Tot.jn (Tot.iteT rfl ?_)
 refine Tot.bindOf (B44 (Nat.le_trans (B45 h) (by decide)) (B5c h)) ?_
 refine Tot.iteT rfl ?_
 refine Tot.bindOf B5d ?_
 exact Tot.some rfl
end Go.Proofs.YtkhjkjojjdkidaaGreatDoor

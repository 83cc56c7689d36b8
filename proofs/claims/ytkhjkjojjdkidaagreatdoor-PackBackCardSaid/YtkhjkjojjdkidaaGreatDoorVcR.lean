/- Rows written in place: a stretch of a row is turned. -/
import Derived.Test.YtkhjkjojjdkidaaGreatDoorVcQ
import Derived.Laws.CopyRow
namespace Go.Vc
open Go
variable {P:Program} {B:Base} {ops:Array Oper}
theorem A3s {k:IntKind} (h:k.signed=false) (n:Int):0≤k.wrap n:=by
 unfold IntKind.wrap
 simp only [h,Bool.false_and,Bool.false_eq_true,if_false]
 exact Int.emod_nonneg _ (by have:(0:Int)<2 ^ k.bits:=Int.pow_pos (by decide);omega)
section
variable {d:Nat} {x y:Operand} {ty:TypeId} {pos:String} {af:Array Edge} {nt nt':List (Nat×V)}
end
end Go.Vc

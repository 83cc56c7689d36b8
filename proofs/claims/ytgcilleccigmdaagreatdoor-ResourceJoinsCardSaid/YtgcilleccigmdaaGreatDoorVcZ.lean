/- A row that is cut off at its end, in place. -/
import Derived.Test.YtgcilleccigmdaaGreatDoorVcT
namespace Go.Vc
open Go
variable {P : Program} {B : Base} {ops : Array Oper}
section
variable {d : Nat} {x y i : Operand} {ty : TypeId} {pos : String} {af : Array Edge}
end
section
variable {d : Nat} {x y i : Operand} {ty : TypeId} {pos : String} {af : Array Edge} {nt nt' : List (Nat × V)}
end
end Go.Vc

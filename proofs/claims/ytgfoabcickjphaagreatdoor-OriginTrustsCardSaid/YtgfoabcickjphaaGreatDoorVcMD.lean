/- Maps: loops over all entries, in whatever order. -/
import Derived.Test.YtgfoabcickjphaaGreatDoorVcMC
namespace Go.Vc
open Go
variable {P:Program} {B:Base} {ops:Array Oper}
section
variable {A S:Type} {Q:Exit→EL→OL→Prop}
end
section
variable {d:Nat} {x i:Operand} {ty:TypeId} {pos:String} {af:Array Edge} {nt nt':List (Nat×V)}
end
end Go.Vc

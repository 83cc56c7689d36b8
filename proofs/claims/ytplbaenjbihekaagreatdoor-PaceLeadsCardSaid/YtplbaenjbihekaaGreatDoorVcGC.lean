/- A region is walked by search: the default argument of this lemma does it. -/
import Derived.Test.YtplbaenjbihekaaGreatDoorVcGB
import Derived.KernelRfl
namespace Go.Vc
open Go
variable {P:Program} {B:Base} {E:EL} {O:OL} {Q:Exit→EL→OL→Prop} {ops:Array Oper}
section
variable {p:Prop} {id:Nat} {os:List Oper} {effs:List Eff} {E':EL} {O':OL} {c2:Code}
end
end Go.Vc

/- slices.Clone of a row that is still written. -/
import Derived.Test.YtplbaenjbihekaaGreatDoorVcW
import Derived.Test.YtplbaenjbihekaaGreatDoorVcG
namespace Go.Vc
open Go Go.Proofs Go.RowKit
variable {P:Program}
section
variable {B:Base} {ops:Array Oper} {d:Nat} {ty:TypeId} {pos:String} {af:Array Edge}
end
end Go.Vc

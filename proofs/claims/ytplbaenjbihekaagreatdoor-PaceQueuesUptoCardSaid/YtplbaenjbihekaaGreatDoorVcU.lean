/- Functions of the library that write a row in place, met by a contract that is given from outside. -/
import Derived.Test.YtplbaenjbihekaaGreatDoorVcT
import Derived.Sort.Grow
import Derived.Sort.Row
namespace Go.Vc
open Go
variable {P:Program}
structure RowDone (w w':World) (b:Nat):Prop where
 os:w'.os=w.os
 tape:w'.tape=w.tape
 output:w'.output=w.output
 size:w.heap.size≤w'.heap.size
 block:∀ k,k<w.heap.size→k≠b→w'.heap[k]? = w.heap[k]?
end Go.Vc

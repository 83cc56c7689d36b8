/- Maps: taking out an entry; a copy of a map. -/
import Derived.Test.YtplbaenjbihekaaGreatDoorVcMD
namespace Go.Vc
open Go
variable {P:Program} {B:Base} {ops:Array Oper}
section
variable {α β:Type} {f:α→D} {g:β→D} {eq:α→α→Bool} {k:α}
end
section
variable {d:Nat} {x y i:Operand} {ty:TypeId} {pos:String} {af:Array Edge} {nt nt' nt'':List (Nat×V)}
variable {α β:Type} {f:α→D} {g:β→D} {eq:α→α→Bool} {kt et t:TypeId} {kd:TypeDesc} {nm:Nat} {l:List (α×β)} {k:α}
end
structure MCloneOk (P:Program) (f:FuncId):Prop where
 run:∀ (b:Nat) (es:Array MapEntry) (clock:Nat) (w:World),w.heap[b]? = some (.map es clock)→Calls P f #[.map (some b)] w fun e w'=>e = .returned (.map (some w.heap.size))∧w'=w.alloc (.map es clock)
end Go.Vc

/- Maps: taking out an entry; a copy of a map. -/
import Derived.Test.YtplbaenjbihekaaGreatDoorVcMD
namespace Go.Vc
open Go
variable {P:Program} {B:Base} {ops:Array Oper}
section
variable {α β:Type} {f:α→D} {g:β→D} {eq:α→α→Bool} {k:α}
end
theorem Stamps.erase {es:List MapEntry} {clock:Nat} (h:Stamps es clock) (j:Nat):Stamps (es.eraseIdx j) clock:=by
 have hs:=List.eraseIdx_sublist es j
 refine⟨?_,fun e he=>h.below e (hs.subset he)⟩
 exact h.apart.sublist (hs.map _)
section
variable {d:Nat} {x y i:Operand} {ty:TypeId} {pos:String} {af:Array Edge} {nt nt' nt'':List (Nat×V)}
variable {α β:Type} {f:α→D} {g:β→D} {eq:α→α→Bool} {kt et t:TypeId} {kd:TypeDesc} {nm:Nat} {l:List (α×β)} {k:α}
end
structure MCloneOk (P:Program) (f:FuncId):Prop where
 run:∀ (b:Nat) (es:Array MapEntry) (clock:Nat) (w:World),w.heap[b]? = some (.map es clock)→Calls P f #[.map (some b)] w fun e w'=>e = .returned (.map (some w.heap.size))∧w'=w.alloc (.map es clock)
end Go.Vc

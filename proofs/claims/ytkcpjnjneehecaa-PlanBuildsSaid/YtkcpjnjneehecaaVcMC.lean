/- Maps: going through one, in whatever order. -/
import Derived.Test.YtkcpjnjneehecaaVcMB
namespace Go.Vc
open Go
variable {P:Program} {B:Base} {ops:Array Oper}
theorem MapL.get {Z:Nat→Prop} {w:World}:∀ {ps:List (D×D)} {es:List MapEntry} {j:Nat} {e:MapEntry},MapL Z w ps es→es[j]? = some e→∃ p,ps[j]? = some p∧DV Z w p.1 e.key∧DV Z w p.2 e.val
 | p :: _,e' :: _,0,e,h,he=>by
  simp only [List.getElem?_cons_zero,Option.some.injEq] at he
  subst he
  exact⟨p,rfl,h.1.1,h.1.2⟩
 | _ :: _,_ :: _,j+1,e,h,he=>by
  obtain⟨p,h1,h2⟩:=MapL.get h.2 (by simpa using he)
  exact⟨p,by simpa using h1,h2⟩
 | [],[],_,_,_,he=>by simp at he
 | [],_ :: _,_,_,h,_=>h.elim
 | _ :: _,[],_,_,h,_=>h.elim
section
variable {d:Nat} {x:Operand} {ty:TypeId} {pos:String} {af:Array Edge} {nt:List (Nat×V)} {kt et t:TypeId} {nm it:Nat} {ps:List (D×D)}
end
end Go.Vc

/- Maps whose entries stand in whatever order: what a loop over a map leaves does not depend on its order. -/
import Derived.Test.YtgfoabcickjphaaGreatDoorVcME
namespace Go.Vc
open Go
variable {P:Program} {B:Base} {ops:Array Oper}
-- keys
mutual
theorem FitE.same_true:∀ {h:Nat} {t:TypeId} {x y:D} {b:Bool},FitE P h t x y b→x=y→b=true
 | _,_,_,_,_,.bool a b hu,e=>by cases e;simp
 | _,_,_,_,_,.int a b hu,e=>by cases e;simp
 | _,_,_,_,_,.str a b hu,e=>by cases e;simp
 | _,_,_,_,_,.st hu hl hs hf,e=>FitF.same_true hf (by cases e;rfl)
theorem FitF.same_true:∀ {h o:Nat} {fs:List Field} {xs ys:List D} {b:Bool},FitF P h o fs xs ys b→xs=ys→b=true
 | _,_,_,_,_,_,.nil,_=>rfl
 | _,_,_,_,_,_,.cons hn ho ht hx hy he hf,e=>by
  rw [FitE.same_true he (by cases e;rfl),FitF.same_true hf (by cases e;rfl)];rfl
end
section
variable {α β:Type} {f:α→D} {g:β→D} {eq:α→α→Bool} {kt:TypeId}
def dn (f:α→D) (l:List (α×β)):Prop:=(l.map fun p=>f p.1).Nodup
end
-- maps
def mapQ (ps:List (D×D)):Blk where
 holds Z w b:=∃ qs:List (D×D),qs.Perm ps∧(qs.map (·.1)).Nodup∧(mapB qs).holds Z w b
 move hx hb h:=by
  obtain⟨qs,h1,h2,h3⟩:=h
  exact⟨qs,h1,h2,(mapB qs).move hx hb h3⟩
 lt h:=by
  obtain⟨qs,_,_,h3⟩:=h
  exact(mapB qs).lt h3
theorem mapQ.of {α β:Type} {f:α→D} {g:β→D} {l l':List (α×β)} {Z:Nat→Prop} {w:World} {b:Nat} (hp:l'.Perm l) (hd:dn f l') (h:(mapB (mpairs f g l')).holds Z w b):(mapQ (mpairs f g l)).holds Z w b :=
 ⟨mpairs f g l',hp.map _,by unfold mpairs;rw [List.map_map];exact hd,h⟩
section
variable {d:Nat} {x y i:Operand} {ty:TypeId} {pos:String} {af:Array Edge} {nt nt' nt'':List (Nat×V)}
section
variable {α β:Type} {f:α→D} {g:β→D} {eq:α→α→Bool} {kt et t:TypeId} {kd:TypeDesc} {nm:Nat} {l:List (α×β)} {k:α}
end
section
variable {kt et t:TypeId} {nm it:Nat} {ps:List (D×D)}
end
end
-- one list for all orders
end Go.Vc

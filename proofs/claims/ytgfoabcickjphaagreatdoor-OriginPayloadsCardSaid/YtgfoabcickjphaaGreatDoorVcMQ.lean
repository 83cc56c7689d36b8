/- Maps whose entries stand in whatever order: what a loop over a map leaves does not depend on its order. -/
import Derived.Test.YtgfoabcickjphaaGreatDoorVcME
namespace Go.Vc
open Go
variable {P:Program} {B:Base} {ops:Array Oper}
-- keys
mutual
theorem FitE.same_true:∀ {h:Nat} {t:TypeId} {x y:D} {b:Bool},FitE P h t x y b→x=y→b=true
 | _,_,_,_,_,.bool a b hu,e=>by cases e;simp
 | _,_,_,_,_,.int a b hu,e=>by cases e;simp
 | _,_,_,_,_,.str a b hu,e=>by cases e;simp
 | _,_,_,_,_,.st hu hl hs hf,e=>FitF.same_true hf (by cases e;rfl)
theorem FitF.same_true:∀ {h o:Nat} {fs:List Field} {xs ys:List D} {b:Bool},FitF P h o fs xs ys b→xs=ys→b=true
 | _,_,_,_,_,_,.nil,_=>rfl
 | _,_,_,_,_,_,.cons hn ho ht hx hy he hf,e=>by
  rw [FitE.same_true he (by cases e;rfl),FitF.same_true hf (by cases e;rfl)];rfl
end
section
variable {α β:Type} {f:α→D} {g:β→D} {eq:α→α→Bool} {kt:TypeId}
def dn (f:α→D) (l:List (α×β)):Prop:=(l.map fun p=>f p.1).Nodup
end
theorem perm_lift {A C:Type} (h:A→C) {l:List A} {qs:List C} (hp:qs.Perm (l.map h)):∃ l':List A,l'.Perm l∧qs=l'.map h:=by
 generalize hm:l.map h=m at hp
 induction hp generalizing l with
 | nil=>exact⟨[],by rw [List.map_eq_nil_iff.1 hm],rfl⟩
 | cons x hp ih =>
  cases l with
  | nil=>cases hm
  | cons a l =>
   rw [List.map_cons,List.cons.injEq] at hm
   obtain⟨l',h1,h2⟩:=ih hm.2
   exact⟨a :: l',h1.cons a,by rw [List.map_cons,hm.1,h2]⟩
 | swap x y m =>
  cases l with
  | nil=>cases hm
  | cons a l =>
   cases l with
   | nil=>cases hm
   | cons b l =>
    simp only [List.map_cons,List.cons.injEq] at hm
    exact⟨b :: a :: l,List.Perm.swap a b l,by rw [List.map_cons,List.map_cons,hm.1,hm.2.1,hm.2.2]⟩
 | trans h1 h2 ih1 ih2 =>
  obtain⟨l2,g1,g2⟩:=ih2 hm
  obtain⟨l1,g3,g4⟩:=ih1 g2.symm
  exact⟨l1,g3.trans g1,g4⟩
-- maps
def mapQ (ps:List (D×D)):Blk where
 holds Z w b:=∃ qs:List (D×D),qs.Perm ps∧(qs.map (·.1)).Nodup∧(mapB qs).holds Z w b
 move hx hb h:=by
  obtain⟨qs,h1,h2,h3⟩:=h
  exact⟨qs,h1,h2,(mapB qs).move hx hb h3⟩
 lt h:=by
  obtain⟨qs,_,_,h3⟩:=h
  exact(mapB qs).lt h3
theorem mapQ.lift {α β:Type} {f:α→D} {g:β→D} {l:List (α×β)} {Z:Nat→Prop} {w:World} {b:Nat} (h:(mapQ (mpairs f g l)).holds Z w b):∃ l':List (α×β),l'.Perm l∧dn f l'∧(mapB (mpairs f g l')).holds Z w b:=by
 obtain⟨qs,h1,h2,h3⟩:=h
 obtain⟨l',g1,g2⟩:=perm_lift _ h1
 subst g2
 refine⟨l',g1,?_,h3⟩
 rw [List.map_map] at h2
 exact h2
theorem mapQ.of {α β:Type} {f:α→D} {g:β→D} {l l':List (α×β)} {Z:Nat→Prop} {w:World} {b:Nat} (hp:l'.Perm l) (hd:dn f l') (h:(mapB (mpairs f g l')).holds Z w b):(mapQ (mpairs f g l)).holds Z w b :=
 ⟨mpairs f g l',hp.map _,by unfold mpairs;rw [List.map_map];exact hd,h⟩
section
variable {d:Nat} {x y i:Operand} {ty:TypeId} {pos:String} {af:Array Edge} {nt nt' nt'':List (Nat×V)}
section
variable {α β:Type} {f:α→D} {g:β→D} {eq:α→α→Bool} {kt et t:TypeId} {kd:TypeDesc} {nm:Nat} {l:List (α×β)} {k:α}
end
section
variable {kt et t:TypeId} {nm it:Nat} {ps:List (D×D)}
end
end
-- one list for all orders
end Go.Vc

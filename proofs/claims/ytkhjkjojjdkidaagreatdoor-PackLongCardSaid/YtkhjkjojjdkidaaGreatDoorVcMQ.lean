/- Maps whose entries stand in whatever order: what a loop over a map leaves does not depend on its order. -/
import Derived.Test.YtkhjkjojjdkidaaGreatDoorVcME
namespace Go.Vc
open Go
variable {P:Program} {B:Base} {ops:Array Oper}
theorem Sim.reB {env:Env} {ob:Obs} {a:Act} {w:World} {σ:Nat→Option Nat} {Z:Nat→Prop} (s:Sim B env ob a w σ Z) {n:Nat} {S T:Blk} (hn:ob n=some (some (.blk S))) (h:∀ b,σ n=some b→S.holds Z w b→T.holds Z w b) :
  Sim B env (updO ob n (some (.blk T))) a w σ Z:=by
 have hl:∀ m,live (updO ob n (some (.blk T))) m→live ob m:=fun m ⟨o,h⟩=>by
  by_cases hm:m=n
  ·subst hm;exact⟨_,hn⟩
  ·exact⟨o,by simpa [updO,hm] using h⟩
 have m:Move ob (updO ob n (some (.blk T))) σ σ Z Z w w:=⟨Ext.refl _ _,fun m h=>by
   by_cases hm:m=n
   ·subst hm;simp [used,updO]
   ·simpa [used,updO,hm] using h,fun m _ h=>⟨hl m h,rfl⟩,fun _ _ _ _ _=>rfl⟩
 refine { s with env:=?_,obj:=?_,inj:=fun i j b hi hj=>s.inj i j b (hl i hi) (hl j hj),blk:=fun i b hi=>s.blk i b (hl i hi),pin:=fun i b hp hi=>s.pin i b hp (hl i hi),shp:=fun i b hp hi=>s.shp i b hp (hl i hi),foot:=s.foot.same hl fun r h=>by cases h }
 ·intro t x ht
  obtain⟨v,h1,h2⟩:=s.env t x ht
  exact⟨v,h1,h2.move m⟩
 ·intro i o hi
  by_cases hin:i=n
  ·subst hin
   have ho:o = .blk T:=by simpa [updO] using hi.symm
   subst ho
   obtain⟨b,hb,hS⟩:=s.obj i _ hn
   exact⟨b,hb,h b hb hS⟩
  ·have ho:ob i=some (some o):=by simpa [updO,hin] using hi
   have h:=s.obj i o ho
   cases o with
   | box t x =>
    obtain⟨b,cs,h1,h2,h3,h4,h5⟩:=h
    exact⟨b,cs,h1,h2,h3,h4,V.rep_move m x _ h5⟩
   | row e' sz' es'=>exact h
   | blk sp=>exact h
   | know k=>exact h
   | reg r=>exact h
theorem B3d {ob:Obs} {n:Nat} {x y:Option Ob}:updO (updO ob n x) n y=updO ob n y:=by
 funext k;unfold updO;by_cases h:k=n<;>simp [h]
theorem B3e {ob:Obs} {n:Nat} {x:Option Ob} (h:ob n=some x):updO ob n x=ob:=by
 funext k;unfold updO
 by_cases hk:k=n
 ·rw [if_pos hk,hk,h]
 ·rw [if_neg hk]
theorem OpJ.reQ0 {o:Oper} {nt wt:List (Nat×V)} {nm:Nat} {S:Blk} (h:∀ (Z:Nat→Prop) (w:World) (b:Nat),S.holds Z w b→∃ T:Blk,T.holds Z w b∧(∀ (Z:Nat→Prop) (w:World) (b:Nat),T.holds Z w b→S.holds Z w b)∧OpJ P B ops o { nt,no:=[(nm,.blk T)],wt }) :
  OpJ P B ops o { nt,no:=[(nm,.blk S)],wt }:=by
 intro Q env ob a w σ Z K s hn hK
 have hob:ob nm=some (some (.blk S)):=hn.2.1 (nm,.blk S) (by simp)
 obtain⟨b,hb,hS⟩:=s.obj nm _ hob
 obtain⟨T,hT,hback,hop⟩:=h Z w b hS
 have s1:=s.reB hob (T:=T) (fun b' hb' _=>by
  have:b=b':=Option.some.inj (hb.symm.trans hb')
  rw [← this];exact hT)
 have hT1:updO ob nm (some (.blk T)) nm=some (some (.blk T)):=by simp [updO]
 refine hop Q env (updO ob nm (some (.blk T))) a w σ Z K s1 ⟨hn.1,fun p hp=>by simp at hp;subst hp;exact hT1,fun n hn=>by cases hn⟩ fun a' w' σ' Z' s'=>hK a' w' σ' Z' ?_
 rw [G4 _ rfl] at s' ⊢
 have s2:=s'.reB hT1 (T:=S) (fun b' _ h=>hback _ _ _ h)
 rw [B3d,B3e hob] at s2
 exact s2
-- keys
mutual
theorem FitE.same_true:∀ {h:Nat} {t:TypeId} {x y:D} {b:Bool},FitE P h t x y b→x=y→b=true
 | _,_,_,_,_,.bool a b hu,e=>by cases e;simp
 | _,_,_,_,_,.int a b hu,e=>by cases e;simp
 | _,_,_,_,_,.str a b hu,e=>by cases e;simp
 | _,_,_,_,_,.st hu hl hs hf,e=>FitF.same_true hf (by cases e;rfl)
theorem FitF.same_true:∀ {h o:Nat} {fs:List Field} {xs ys:List D} {b:Bool},FitF P h o fs xs ys b→xs=ys→b=true
 | _,_,_,_,_,_,.nil,_=>rfl
 | _,_,_,_,_,_,.cons hn ho ht hx hy he hf,e=>by
  rw [FitE.same_true he (by cases e;rfl),FitF.same_true hf (by cases e;rfl)];rfl
end
section
variable {α β:Type} {f:α→D} {g:β→D} {eq:α→α→Bool} {kt:TypeId}
theorem KeyEq.iff (he:KeyEq P kt f eq) (a b:α):eq a b=true↔f a=f b:=by
 obtain⟨h,_,hf⟩:=he.fit
 exact⟨he.same a b,fun e=>(hf a b).same_true e⟩
def dn (f:α→D) (l:List (α×β)):Prop:=(l.map fun p=>f p.1).Nodup
theorem B2s {l l':List (α×β)} (h:l'.Perm l) (hd:dn f l'):dn f l:=(h.map _).nodup_iff.1 hd
theorem A8g (he:KeyEq P kt f eq) {k:α} {v:β}:∀ {l:List (α×β)},dn f l→(mget eq l k=some v↔∃ p∈l,f k=f p.1∧p.2=v)
 | [],_=>by simp [mget,mix]
 | p :: l,hd=>by
  have hd':dn f l:=(List.nodup_cons.1 hd).2
  have hno:=(List.nodup_cons.1 hd).1
  have ih:=A8g he (k:=k) (v:=v) hd'
  have e0:mget eq (p :: l) k=if eq k p.1=true then some p.2 else mget eq l k:=by
   have e:mix eq k (p :: l)=if eq k p.1=true then some (0,p.2) else (mix eq k l).map fun r=>(r.1+1,r.2):=by rw [mix]
   show(mix eq k (p :: l)).map (·.2)=if eq k p.1=true then some p.2 else (mix eq k l).map (·.2)
   rw [e]
   by_cases h:eq k p.1=true
   ·rw [if_pos h,if_pos h];rfl
   ·rw [if_neg h,if_neg h]
    cases mix eq k l<;>rfl
  rw [e0]
  by_cases hk:eq k p.1=true
  ·have hk':=(he.iff _ _).1 hk
   rw [if_pos hk]
   constructor
   ·intro e;exact⟨p,List.mem_cons_self,hk',Option.some.inj e⟩
   ·rintro⟨q,hq,h1,h2⟩
    rcases List.mem_cons.1 hq with rfl | hq
    ·rw [h2]
    ·exact(hno (List.mem_map.2 ⟨q,hq,h1.symm.trans hk'⟩)).elim
  ·rw [if_neg hk,ih]
   constructor
   ·rintro⟨q,hq,h⟩;exact⟨q,List.mem_cons_of_mem _ hq,h⟩
   ·rintro⟨q,hq,h1,h2⟩
    rcases List.mem_cons.1 hq with rfl | hq
    ·exact(hk ((he.iff _ _).2 h1)).elim
    ·exact⟨q,hq,h1,h2⟩
theorem B3f (he:KeyEq P kt f eq) {l l':List (α×β)} (h:l'.Perm l) (hd:dn f l') (k:α):mget eq l' k=mget eq l k:=by
 refine Option.ext fun v => ?_
 rw [A8g he hd,A8g he (B2s h hd)]
 constructor
 ·rintro⟨p,hp,h2⟩;exact⟨p,h.mem_iff.1 hp,h2⟩
 ·rintro⟨p,hp,h2⟩;exact⟨p,h.mem_iff.2 hp,h2⟩
theorem B3g (he:KeyEq P kt f eq) {k:α} {v:β} {l l':List (α×β)} (h:l'.Perm l):dn f l'→(mput eq l' k v).Perm (mput eq l k v):=by
 induction h with
 | nil=>intro _;exact List.Perm.refl _
 | cons x h ih =>
  intro hd
  have ih:=ih (List.nodup_cons.1 hd).2
  unfold mput
  by_cases hk:eq k x.1=true
  ·rw [if_pos hk,if_pos hk];exact h.cons _
  ·rw [if_neg hk,if_neg hk];exact ih.cons _
 | swap x y l =>
  intro hd
  have hne:f y.1≠f x.1:=fun e=>(List.nodup_cons.1 hd).1 (List.mem_map.2 ⟨x,List.mem_cons_self,e.symm⟩)
  simp only [mput]
  by_cases h1:eq k y.1=true
  ·have h2:¬ eq k x.1=true:=fun e=>hne (((he.iff _ _).1 h1).symm.trans ((he.iff _ _).1 e))
   rw [if_pos h1,if_neg h2,if_pos h1]
   exact List.Perm.swap _ _ _
  ·by_cases h2:eq k x.1=true
   ·rw [if_neg h1,if_pos h2,if_pos h2]
    exact List.Perm.swap _ _ _
   ·rw [if_neg h1,if_neg h2,if_neg h2,if_neg h1]
    exact List.Perm.swap _ _ _
 | trans h1 h2 ih1 ih2=>intro hd;exact(ih1 hd).trans (ih2 (B2s h1 hd))
theorem B0z {k:α} {v:β} {x:D}:∀ {l:List (α×β)},x∈((mput eq l k v).map fun p=>f p.1)→x∈(l.map fun p=>f p.1)∨x=f k
 | [],h=>by simpa [mput] using h
 | p :: l,h=>by
  unfold mput at h
  split at h
  ·exact .inl (by simpa using h)
  ·rw [List.map_cons] at h ⊢
   rcases List.mem_cons.1 h with h | h
   ·exact .inl (by rw [h];exact List.mem_cons_self)
   ·rcases B0z h with h | h
    ·exact .inl (List.mem_cons_of_mem _ h)
    ·exact .inr h
theorem B2t (he:KeyEq P kt f eq) {k:α} {v:β}:∀ {l:List (α×β)},dn f l→dn f (mput eq l k v)
 | [],_=>by simp [mput,dn]
 | p :: l,hd=>by
  have h1:=List.nodup_cons.1 hd
  unfold mput
  by_cases hk:eq k p.1=true
  ·rw [if_pos hk];exact hd
  ·rw [if_neg hk]
   refine List.nodup_cons.2 ⟨fun hm => ?_,B2t he h1.2⟩
   rcases B0z hm with h | h
   ·exact h1.1 h
   ·exact hk ((he.iff _ _).2 h.symm)
end
theorem B3h {A C:Type} (h:A→C) {l:List A} {qs:List C} (hp:qs.Perm (l.map h)):∃ l':List A,l'.Perm l∧qs=l'.map h:=by
 generalize hm:l.map h=m at hp
 induction hp generalizing l with
 | nil=>exact⟨[],by rw [List.map_eq_nil_iff.1 hm],rfl⟩
 | cons x hp ih =>
  cases l with
  | nil=>cases hm
  | cons a l =>
   rw [List.map_cons,List.cons.injEq] at hm
   obtain⟨l',h1,h2⟩:=ih hm.2
   exact⟨a :: l',h1.cons a,by rw [List.map_cons,hm.1,h2]⟩
 | swap x y m =>
  cases l with
  | nil=>cases hm
  | cons a l =>
   cases l with
   | nil=>cases hm
   | cons b l =>
    simp only [List.map_cons,List.cons.injEq] at hm
    exact⟨b :: a :: l,List.Perm.swap a b l,by rw [List.map_cons,List.map_cons,hm.1,hm.2.1,hm.2.2]⟩
 | trans h1 h2 ih1 ih2 =>
  obtain⟨l2,g1,g2⟩:=ih2 hm
  obtain⟨l1,g3,g4⟩:=ih1 g2.symm
  exact⟨l1,g3.trans g1,g4⟩
-- maps
def mapQ (ps:List (D×D)):Blk where
 holds Z w b:=∃ qs:List (D×D),qs.Perm ps∧(qs.map (·.1)).Nodup∧(mapB qs).holds Z w b
 move hx hb h:=by
  obtain⟨qs,h1,h2,h3⟩:=h
  exact⟨qs,h1,h2,(mapB qs).move hx hb h3⟩
 lt h:=by
  obtain⟨qs,_,_,h3⟩:=h
  exact(mapB qs).lt h3
theorem mapQ.lift {α β:Type} {f:α→D} {g:β→D} {l:List (α×β)} {Z:Nat→Prop} {w:World} {b:Nat} (h:(mapQ (mpairs f g l)).holds Z w b):∃ l':List (α×β),l'.Perm l∧dn f l'∧(mapB (mpairs f g l')).holds Z w b:=by
 obtain⟨qs,h1,h2,h3⟩:=h
 obtain⟨l',g1,g2⟩:=B3h _ h1
 subst g2
 refine⟨l',g1,?_,h3⟩
 rw [List.map_map] at h2
 exact h2
theorem mapQ.of {α β:Type} {f:α→D} {g:β→D} {l l':List (α×β)} {Z:Nat→Prop} {w:World} {b:Nat} (hp:l'.Perm l) (hd:dn f l') (h:(mapB (mpairs f g l')).holds Z w b):(mapQ (mpairs f g l)).holds Z w b :=
 ⟨mpairs f g l',hp.map _,by unfold mpairs;rw [List.map_map];exact hd,h⟩
section
variable {d:Nat} {x y i:Operand} {ty:TypeId} {pos:String} {af:Array Edge} {nt nt' nt'':List (Nat×V)}
section
variable {α β:Type} {f:α→D} {g:β→D} {eq:α→α→Bool} {kt et t:TypeId} {kd:TypeDesc} {nm:Nat} {l:List (α×β)} {k:α}
theorem OpJ.mlook2Q (hu:P.underlying t=some (.map kt et)) (hk:P.underlying kt=some kd) (he:KeyEq P kt f eq) {z:β} (hz:TyZ P et (.d (g z))) (hN:d<B.N) (hx:Opd x (.mref nm) nt) (hi:Opd i (.d (f k)) nt') :
  OpJ P B ops ⟨some d,.lookup t x i true,ty,pos,af,none⟩ { nt:=nt++nt',no:=[(nm,.blk (mapQ (mpairs f g l)))],wt:=[(d,.tup [.d (g ((mget eq l k).getD z)),.d (.bool (mget eq l k).isSome)])] } :=
 OpJ.reQ0 fun Z w b hS=>by
  obtain⟨l',h1,h2,h3⟩:=mapQ.lift hS
  refine⟨mapB (mpairs f g l'),h3,fun Z w b h=>mapQ.of h1 h2 h,?_⟩
  rw [← B3f he h1 h2 k]
  exact OpJ.mlook2 hu hk he hz hN hx hi
end
section
variable {kt et t:TypeId} {nm it:Nat} {ps:List (D×D)}
end
end
-- one list for all orders
end Go.Vc

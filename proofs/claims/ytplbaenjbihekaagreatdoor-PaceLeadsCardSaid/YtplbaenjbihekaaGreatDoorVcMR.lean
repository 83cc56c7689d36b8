/- Maps of numbers to rows, some of which (the keys own) the map owns: rows taken out and put back, settled. -/
import Derived.Test.YtplbaenjbihekaaGreatDoorVcRg
import Derived.Test.YtplbaenjbihekaaGreatDoorVcMQ
namespace Go.Vc
open Go
variable {P:Program} {B:Base} {ops:Array Oper}
-- the map
section
variable {γ:Type} (h:γ→D)
def MapR (Z:Nat→Prop) (w:World) (own:List Int) (sz2:Nat):List (Int×List γ)→List MapEntry→Prop
 | [],[]=>True
 | p :: ps,e :: es=>(e.key = .int .i64 p.1∧(p.1∉own→DV Z w (.list sz2 (p.2.map h)) e.val))∧MapR Z w own sz2 ps es
 | _,_=>False
def InnM (Z:Nat→Prop) (w:World) (e2 sz2:Nat) (xs:List γ) (v:Value):Prop:=∃ ys,w.ownsRow 0 e2 sz2 v xs.length ys∧D.repL Z w (xs.map h) ys
end
section
variable {γ:Type} {h:γ→D}
theorem MapR.ext {Z Z':Nat→Prop} {w w':World} {own:List Int} {sz2:Nat} (hx:Ext Z Z' w w'):∀ {ps:List (Int×List γ)} {es:List MapEntry},MapR h Z w own sz2 ps es→MapR h Z' w' own sz2 ps es
 | [],[],_=>trivial
 | _ :: _,_ :: _,hh=>⟨⟨hh.1.1,fun a=>(hh.1.2 a).ext hx⟩,hh.2.ext hx⟩
 | [],_ :: _,hh=>hh.elim
 | _ :: _,[],hh=>hh.elim
theorem MapR.len {Z:Nat→Prop} {w:World} {own:List Int} {sz2:Nat}:∀ {ps:List (Int×List γ)} {es:List MapEntry},MapR h Z w own sz2 ps es→es.length=ps.length
 | [],[],_=>rfl
 | _ :: _,_ :: _,hh=>by simp [hh.2.len]
 | [],_ :: _,hh=>hh.elim
 | _ :: _,[],hh=>hh.elim
section
variable {eq:Int→Int→Bool} (heq:∀ a b,eq a b=(a==b))
include heq
end
section
variable {d:Nat} {x y i:Operand} {ty:TypeId} {pos:String} {af:Array Edge} {nt nt' nt'':List (Nat×V)}
section
variable {eq:Int→Int→Bool} {kt et t:TypeId} {nm m e2 sz2:Nat} {own:List Int} {l:List (Int×List γ)} {k:Int}
theorem MapR.get {Z:Nat→Prop} {w:World}:∀ {ps:List (Int×List γ)} {es:List MapEntry} {j:Nat} {p:Int×List γ} {e:MapEntry},MapR h Z w own sz2 ps es→ps[j]? = some p→es[j]? = some e→e.key = .int .i64 p.1∧(p.1∉own→DV Z w (.list sz2 (p.2.map h)) e.val)
 | [],_,_,_,_,_,h1,_=>by simp at h1
 | _ :: _,[],_,_,_,hh,_,_=>hh.elim
 | p :: ps,e :: es,0,p',e',hh,h1,h2=>by simp at h1 h2;subst h1;subst h2;exact hh.1
 | p :: ps,e :: es,j+1,p',e',hh,h1,h2=>MapR.get hh.2 (by simpa using h1) (by simpa using h2)
theorem MapR.of {Z:Nat→Prop} {w:World}:∀ {ps:List (Int×List γ)} {es:List MapEntry},es.length=ps.length→(∀ (j:Nat) (p:Int×List γ) (e:MapEntry),ps[j]? = some p→es[j]? = some e→e.key = .int .i64 p.1∧(p.1∉own→DV Z w (.list sz2 (p.2.map h)) e.val))→MapR h Z w own sz2 ps es
 | [],[],_,_=>trivial
 | [],_ :: _,h1,_=>by simp at h1
 | _ :: _,[],h1,_=>by simp at h1
 | p :: ps,e :: es,h1,h2=>⟨h2 0 p e rfl rfl,MapR.of (by simpa using h1) fun j p' e' a b=>h2 (j+1) p' e' (by simpa using a) (by simpa using b)⟩
theorem InnM.data {Z Z':Nat→Prop} {w:World} {xs:List γ} {v:Value} (hi:InnM h Z w e2 sz2 xs v) (hsz:∀ y,(h y).sz=sz2) (hx:Ext Z Z' w w) (hz:∀ b,v.ownBlock=some b→Z' b):DV Z' w (.list sz2 (xs.map h)) v:=by
 obtain⟨ys,⟨g1,g2⟩,g3⟩:=hi
 refine⟨[v],rfl,?_⟩
 rcases g2 with ⟨rfl,g⟩ | ⟨g,cap,cur,rfl,_,k3,k4,k5,k6,k7⟩
 ·have:xs=[]:=List.eq_nil_of_length_eq_zero g
  subst this
  exact⟨none,0,rfl,Nat.le_refl _,by omega,.inl rfl⟩
 ·refine⟨_,cap,by simp,by simpa using k4,by simpa [maxLen] using k5,.inr ⟨g,0,rfl,hz g rfl,fun q hq=>by obtain⟨z,_,rfl⟩:=List.mem_map.1 hq;exact hsz z,?_⟩⟩
  refine D.repE_of_repL _ g 0 ys (D.repL_ext hx _ ys g3) (fun q hq=>by obtain⟨z,_,rfl⟩:=List.mem_map.1 hq;exact hsz z) fun q u hq => ?_
  rw [Nat.zero_add,cell_of_row w g q cur e2 (0,0) k3]
  rw [← k7,List.getElem?_take] at hq
  split at hq
  ·simpa using hq
  ·cases hq
theorem MapR.toL {Z Z':Nat→Prop} {w:World} (hx:Ext Z Z' w w):∀ {ps:List (Int×List γ)} {es:List MapEntry},MapR h Z w own sz2 ps es →
  (∀ (i:Nat) (p:Int×List γ) (e:MapEntry),ps[i]? = some p→es[i]? = some e→p.1∈own→DV Z' w (.list sz2 (p.2.map h)) e.val)→MapL Z' w (mpairs (eI .i64) (fun xs:List γ => .list sz2 (xs.map h)) ps) es
 | [],[],_,_=>trivial
 | p :: ps,e :: es,hh,hi=>by
  refine⟨⟨⟨[.int .i64 p.1],by rw [hh.1.1];rfl,rfl⟩,?_⟩,MapR.toL hx hh.2 fun i p' e' a b=>hi (i+1) p' e' (by simpa using a) (by simpa using b)⟩
  by_cases ho:p.1∈own
  ·exact hi 0 p e rfl rfl ho
  ·exact(hh.1.2 ho).ext hx
 | [],_ :: _,hh,_=>hh.elim
 | _ :: _,[],hh,_=>hh.elim
end
end
end
end Go.Vc

/- Maps: blocks of entries; making, looking up, storing. -/
import Derived.Test.YtkcpjnjneehecaaVcZ
import Derived.MapKept
namespace Go.Vc
open Go
variable {P:Program} {B:Base} {ops:Array Oper}
def DV (Z:Nat→Prop) (w:World) (x:D) (v:Value):Prop:=∃ cs,v=valOf x.isAgg cs∧D.rep Z w x cs
theorem DV.ext {Z Z':Nat→Prop} {w w':World} (hx:Ext Z Z' w w') {x:D} {v:Value} (h:DV Z w x v):DV Z' w' x v:=by
 obtain⟨cs,h1,h2⟩:=h;exact⟨cs,h1,D.rep_ext hx x cs h2⟩
theorem DV.to {ob:Obs} {σ:Nat→Option Nat} {Z:Nat→Prop} {w:World} {x:D} {v:Value} (h:DV Z w x v):RepT ob σ Z w v (.d x):=by
 obtain⟨cs,rfl,h2⟩:=h
 exact RepT.of (RepV.of_cells (x:=.d x) h2 (D.rep_len x cs h2) (D.rep_one x cs h2) x.isAgg rfl) rfl
def MapL (Z:Nat→Prop) (w:World):List (D×D)→List MapEntry→Prop
 | [],[]=>True
 | p :: ps,e :: es=>(DV Z w p.1 e.key∧DV Z w p.2 e.val)∧MapL Z w ps es
 | _,_=>False
theorem MapL.ext {Z Z':Nat→Prop} {w w':World} (hx:Ext Z Z' w w'):∀ {ps:List (D×D)} {es:List MapEntry},MapL Z w ps es→MapL Z' w' ps es
 | [],[],_=>trivial
 | _ :: _,_ :: _,h=>⟨⟨h.1.1.ext hx,h.1.2.ext hx⟩,h.2.ext hx⟩
 | [],_ :: _,h=>h.elim
 | _ :: _,[],h=>h.elim
theorem MapL.len {Z:Nat→Prop} {w:World}:∀ {ps:List (D×D)} {es:List MapEntry},MapL Z w ps es→es.length=ps.length
 | [],[],_=>rfl
 | _ :: _,_ :: _,h=>by simp [h.2.len]
 | [],_ :: _,h=>h.elim
 | _ :: _,[],h=>h.elim
structure Stamps (es:List MapEntry) (clock:Nat):Prop where
 apart:(es.map (·.born)).Nodup
 below:∀ e∈es,e.born<clock
def mapB (ps:List (D×D)):Blk where
 holds Z w b:=∃ (ents:Array MapEntry) (clock:Nat),w.heap[b]? = some (.map ents clock)∧MapL Z w ps ents.toList∧Stamps ents.toList clock
 move hx hb h:=by
  obtain⟨ents,clock,h1,h2,h3⟩:=h
  exact⟨ents,clock,hb.trans h1,h2.ext hx,h3⟩
 lt h:=by
  obtain⟨ents,clock,h1,_⟩:=h
  exact(Array.getElem?_eq_some_iff.1 h1).1
-- keys
structure KeyEq (P:Program) (kt:TypeId) {α:Type} (f:α→D) (eq:α→α→Bool):Prop where
 fit:∃ h,h≤10000∧∀ a b,FitE P h kt (f a) (f b) (eq a b)
 same:∀ a b,eq a b=true→f a=f b
theorem FitE.agg {h:Nat} {t:TypeId} {x y:D} {b:Bool} (e:FitE P h t x y b):x.isAgg=y.isAgg:=by cases e<;>rfl
def mpairs {α β:Type} (f:α→D) (g:β→D) (l:List (α×β)):List (D×D):=l.map fun p=>(f p.1,g p.2)
-- a key may be one
mutual
theorem FitE.check {Z:Nat→Prop} {w w1:World} (em:Bool):∀ {h:Nat} {t:TypeId} {x y:D} {b:Bool},FitE P h t x y b→∀ {d:Nat},h≤d→∀ {cs:List Value},D.rep Z w1 x cs→(Instr.checkKey em d t (valOf x.isAgg cs)).run P w = .ok () w
 | _,_,_,_,_,.bool a b hu,d,hd,cs,hx=>by
  obtain⟨d,rfl⟩:∃ e,d=e+1:=⟨d-1,by omega⟩
  cases hx
  simp [Instr.checkKey,valOf,D.isAgg,run_underlying hu]
 | _,_,_,_,_,.int a b hu,d,hd,cs,hx=>by
  obtain⟨d,rfl⟩:∃ e,d=e+1:=⟨d-1,by omega⟩
  cases hx
  simp [Instr.checkKey,valOf,D.isAgg,run_underlying hu]
 | _,_,_,_,_,.str a b hu,d,hd,cs,hx=>by
  obtain⟨d,rfl⟩:∃ e,d=e+1:=⟨d-1,by omega⟩
  cases hx
  simp [Instr.checkKey,valOf,D.isAgg,run_underlying hu]
 | _,_,_,_,_,.st (t:=t) (fs:=fs) hu hl hs hf,d,hd,cs,hx=>by
  obtain⟨d,rfl⟩:∃ e,d=e+1:=⟨d-1,by omega⟩
  have:=FitF.check (w:=w) em hf (d:=d) (by omega) (px:=[]) rfl hx
  simp only [valOf,D.isAgg,if_true]
  unfold Instr.checkKey
  simp only [Sem.run_bind,run_underlying hu,Result.andThen_ok]
  rw [← Array.forIn_toList,hl]
  simp at this
  simp [this]
theorem FitF.check {Z:Nat→Prop} {w w1:World} (em:Bool):∀ {h o:Nat} {fs:List Field} {xs ys:List D} {b:Bool},FitF P h o fs xs ys b→∀ {d:Nat},h≤d→∀ {px cs:List Value},px.length=o→D.repL Z w1 xs cs →
  ((forIn fs PUnit.unit fun f (_:PUnit)=>if f.name ≠ "_" then (do Instr.checkKey em d f.type (← part f.type (px++cs).toArray f.offset);pure (ForInStep.yield PUnit.unit)) else pure (ForInStep.yield PUnit.unit):Sem PUnit)).run P w = .ok () w
 | _,_,_,_,_,_,.nil,d,_,px,cs,_,_=>by simp
 | _,_,_,_,_,_,.cons (f:=f) (x:=x) (y:=y) (b:=b) hn ho ht hx hy he hf,d,hd,px,cs,hpx,hrx=>by
  obtain⟨c1,c2,rfl,h1,h2⟩:=hrx
  have l1:=D.rep_len _ _ h1
  obtain⟨hxs,hxa⟩:=hx
  have s1:∀ {ag:Bool},x.isAgg=ag→ag=false→x.sz=1:=fun h e=>D.sz_one (h.trans e)
  have p1:=run_part_at ht w px c1 c2 (l1.trans hxs) (fun e=>by rw [← hxs];exact s1 hxa e) (hpx.trans ho.symm)
  have pe:=FitE.check (w:=w) em he (d:=d) hd h1
  rw [hxa] at pe
  have ih:=FitF.check (w:=w) em hf (d:=d) hd (px:=px++c1) (by simp;omega) h2
  rw [List.append_assoc] at p1
  simp only [List.append_assoc] at ih
  rw [List.forIn_cons]
  simp only [hn,ne_eq,not_false_eq_true,if_true,Sem.run_bind,p1,pe,Result.andThen_ok,Sem.run_pure]
  simpa using ih
end
end Go.Vc

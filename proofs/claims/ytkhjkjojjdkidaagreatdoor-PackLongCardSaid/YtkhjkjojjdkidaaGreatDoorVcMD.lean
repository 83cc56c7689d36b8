/- Maps: blocks of entries; making, looking up, storing. -/
import Derived.Test.YtkhjkjojjdkidaaGreatDoorVcZ
import Derived.MapKept
namespace Go.Vc
open Go
variable {P:Program} {B:Base} {ops:Array Oper}
def DV (Z:Nat→Prop) (w:World) (x:D) (v:Value):Prop:=∃ cs,v=valOf x.isAgg cs∧D.rep Z w x cs
theorem DV.ext {Z Z':Nat→Prop} {w w':World} (hx:Ext Z Z' w w') {x:D} {v:Value} (h:DV Z w x v):DV Z' w' x v:=by
 obtain⟨cs,h1,h2⟩:=h;exact⟨cs,h1,D.rep_ext hx x cs h2⟩
theorem DV.to {ob:Obs} {σ:Nat→Option Nat} {Z:Nat→Prop} {w:World} {x:D} {v:Value} (h:DV Z w x v):RepT ob σ Z w v (.d x):=by
 obtain⟨cs,rfl,h2⟩:=h
 exact RepT.of (RepV.of_cells (x:=.d x) h2 (D.rep_len x cs h2) (D.rep_one x cs h2) x.isAgg rfl) rfl
def MapL (Z:Nat→Prop) (w:World):List (D×D)→List MapEntry→Prop
 | [],[]=>True
 | p :: ps,e :: es=>(DV Z w p.1 e.key∧DV Z w p.2 e.val)∧MapL Z w ps es
 | _,_=>False
theorem MapL.ext {Z Z':Nat→Prop} {w w':World} (hx:Ext Z Z' w w'):∀ {ps:List (D×D)} {es:List MapEntry},MapL Z w ps es→MapL Z' w' ps es
 | [],[],_=>trivial
 | _ :: _,_ :: _,h=>⟨⟨h.1.1.ext hx,h.1.2.ext hx⟩,h.2.ext hx⟩
 | [],_ :: _,h=>h.elim
 | _ :: _,[],h=>h.elim
theorem MapL.len {Z:Nat→Prop} {w:World}:∀ {ps:List (D×D)} {es:List MapEntry},MapL Z w ps es→es.length=ps.length
 | [],[],_=>rfl
 | _ :: _,_ :: _,h=>by simp [h.2.len]
 | [],_ :: _,h=>h.elim
 | _ :: _,[],h=>h.elim
structure Stamps (es:List MapEntry) (clock:Nat):Prop where
 apart:(es.map (·.born)).Nodup
 below:∀ e∈es,e.born<clock
def mapB (ps:List (D×D)):Blk where
 holds Z w b:=∃ (ents:Array MapEntry) (clock:Nat),w.heap[b]? = some (.map ents clock)∧MapL Z w ps ents.toList∧Stamps ents.toList clock
 move hx hb h:=by
  obtain⟨ents,clock,h1,h2,h3⟩:=h
  exact⟨ents,clock,hb.trans h1,h2.ext hx,h3⟩
 lt h:=by
  obtain⟨ents,clock,h1,_⟩:=h
  exact(Array.getElem?_eq_some_iff.1 h1).1
-- keys
structure KeyEq (P:Program) (kt:TypeId) {α:Type} (f:α→D) (eq:α→α→Bool):Prop where
 fit:∃ h,h≤10000∧∀ a b,FitE P h kt (f a) (f b) (eq a b)
 same:∀ a b,eq a b=true→f a=f b
theorem FitE.agg {h:Nat} {t:TypeId} {x y:D} {b:Bool} (e:FitE P h t x y b):x.isAgg=y.isAgg:=by cases e<;>rfl
theorem B3c {kt:TypeId} {α:Type} {f:α→D} {eq:α→α→Bool} (hk:KeyEq P kt f eq) {Z Z':Nat→Prop} {w w1 w2:World} {a b:α} {va vb:Value} (ha:DV Z w1 (f a) va) (hb:DV Z' w2 (f b) vb):(Op.equal kt va vb).run P w = .ok (eq a b) w:=by
 obtain⟨h,hh,hf⟩:=hk.fit
 obtain⟨c1,rfl,r1⟩:=ha
 obtain⟨c2,rfl,r2⟩:=hb
 exact(hf a b).run (w:=w) (d:=Op.maxDepth) hh r1 r2
def mix {α β:Type} (eq:α→α→Bool) (k:α):List (α×β)→Option (Nat×β)
 | []=>none
 | p :: l=>if eq k p.1=true then some (0,p.2) else (mix eq k l).map fun q=>(q.1+1,q.2)
def mget {α β:Type} (eq:α→α→Bool) (l:List (α×β)) (k:α):Option β:=(mix eq k l).map (·.2)
def mput {α β:Type} (eq:α→α→Bool):List (α×β)→α→β→List (α×β)
 | [],k,v=>[(k,v)]
 | p :: l,k,v=>if eq k p.1=true then (p.1,v) :: l else p :: mput eq l k v
def mpairs {α β:Type} (f:α→D) (g:β→D) (l:List (α×β)):List (D×D):=l.map fun p=>(f p.1,g p.2)
theorem B2q {kt:TypeId} {α β:Type} {f:α→D} {g:β→D} {eq:α→α→Bool} (hk:KeyEq P kt f eq) {Z Z':Nat→Prop} {w w1 w2:World} {k:α} {kv:Value} (hkv:DV Z' w2 (f k) kv) :
  ∀ {l:List (α×β)} {es:List MapEntry} {i:Nat},MapL Z w1 (mpairs f g l) es→∃ r,(Instr.findAsking kt kv es i).run P w = .ok r w ∧
   match mix eq k l with
   | none=>r=none
   | some (j,b)=>∃ v,r=some (i+j,v)∧DV Z w1 (g b) v
 | [],[],i,_=>⟨none,by simp [Instr.findAsking],rfl⟩
 | p :: l,e :: es,i,h=>by
  obtain⟨⟨h1,h2⟩,h3⟩:=h
  have he:=B3c hk (w:=w) hkv h1
  obtain⟨r,hr,hm⟩:=B2q hk (w:=w) hkv (i:=i+1) h3
  unfold mix
  cases hc:eq k p.1 with
  | true =>
   rw [hc] at he
   refine⟨some (i,e.val),by simp [Instr.findAsking,he,Result.andThen],?_⟩
   rw [if_pos rfl]
   exact⟨e.val,rfl,h2⟩
  | false =>
   rw [hc] at he
   refine⟨r,by simp [Instr.findAsking,he,Result.andThen,hr],?_⟩
   rw [if_neg (by simp)]
   cases hq:mix eq k l with
   | none=>rw [hq] at hm;exact hm
   | some q =>
    rw [hq] at hm
    obtain⟨v,h4,h5⟩:=hm
    exact⟨v,by rw [h4];simp;omega,h5⟩
 | [],_ :: _,_,h=>h.elim
 | _ :: _,[],_,h=>h.elim
theorem B0v {kt:TypeId} {kd:TypeDesc} (hu:P.underlying kt=some kd) {α β:Type} {f:α→D} {g:β→D} {eq:α→α→Bool} (hk:KeyEq P kt f eq) {Z Z':Nat→Prop} {w1 w2:World} {k:α} {kv:Value} (hkv:DV Z' w2 (f k) kv) :
  ∀ {l:List (α×β)} {es:List MapEntry} {i:Nat} {r:Option (Nat×Value)},MapL Z w1 (mpairs f g l) es→Instr.findNow kd kv es i=some r →
   match mix eq k l with
   | none=>r=none
   | some (j,b)=>∃ v,r=some (i+j,v)∧DV Z w1 (g b) v
 | [],[],i,r,_,hr=>by
  simp only [Instr.findNow,Option.some.injEq] at hr
  exact hr.symm
 | p :: l,e :: es,i,r,h,hr=>by
  obtain⟨⟨h1,h2⟩,h3⟩:=h
  obtain⟨hh,_,hf⟩:=hk.fit
  have hfe:=hf k p.1
  obtain⟨c1,rfl,r1⟩:=hkv
  have h1:DV Z w1 (f p.1) e.key:=h1
  obtain⟨c2,e2,r2⟩:=h1
  have hs:Instr.sameNow kd (valOf (f k).isAgg c1) e.key=some (eq k p.1)∨Instr.sameNow kd (valOf (f k).isAgg c1) e.key=none:=by
   rw [e2]
   generalize f k=x at *
   generalize f p.1=y at *
   generalize eq k p.1=b at *
   cases hfe with
   | bool a b' hu'=>cases hu.symm.trans hu';cases r1;cases r2;left;simp [Instr.sameNow,valOf,D.isAgg]
   | @int _ _ q kk a b' hu'=>cases hu.symm.trans hu';cases r1;cases r2;left;simp [Instr.sameNow,valOf,D.isAgg]
   | str a b' hu' =>
    cases hu.symm.trans hu';cases r1;cases r2;left
    have hb:((⟨a.toArray⟩:ByteArray)==⟨b'.toArray⟩)=(a==b'):=by
     show(a.toArray==b'.toArray)=(a==b')
     simp
    simp [Instr.sameNow,valOf,D.isAgg,hb]
   | st hu' hl hs hff=>cases hu.symm.trans hu';right;simp [Instr.sameNow]
  unfold mix
  rcases hs with hs | hs
  ·cases hc:eq k p.1 with
   | true =>
    rw [hc] at hs
    simp only [Instr.findNow,hs,Option.some.injEq] at hr
    rw [if_pos rfl]
    exact⟨e.val,hr.symm,h2⟩
   | false =>
    rw [hc] at hs
    simp only [Instr.findNow,hs] at hr
    have ih:=B0v hu hk (Z':=Z') (w2:=w2) ⟨c1,rfl,r1⟩ (i:=i+1) h3 hr
    rw [if_neg (by simp)]
    cases hq:mix eq k l with
    | none=>rw [hq] at ih;exact ih
    | some q =>
     rw [hq] at ih
     obtain⟨v,h4,h5⟩:=ih
     exact⟨v,by rw [h4];simp;omega,h5⟩
  ·simp [Instr.findNow,hs] at hr
 | [],_ :: _,_,_,h,_=>h.elim
 | _ :: _,[],_,_,h,_=>h.elim
theorem A8f {kt:TypeId} {kd:TypeDesc} (hu:P.underlying kt=some kd) {α β:Type} {f:α→D} {g:β→D} {eq:α→α→Bool} (hk:KeyEq P kt f eq) {Z Z':Nat→Prop} {w w1 w2:World} {k:α} {kv:Value} (hkv:DV Z' w2 (f k) kv)
  {l:List (α×β)} {es:List MapEntry} (h:MapL Z w1 (mpairs f g l) es):∃ r,(Instr.findKey kt kv es).run P w = .ok r w ∧
   match mix eq k l with
   | none=>r=none
   | some (j,b)=>∃ v,r=some (j,v)∧DV Z w1 (g b) v:=by
 unfold Instr.findKey
 simp only [Sem.run_bind,run_underlying hu,Result.andThen_ok]
 cases hn:Instr.findNow kd kv es 0 with
 | some r =>
  refine⟨r,by simp,?_⟩
  have:=B0v hu hk hkv h hn
  simpa only [Nat.zero_add] using this
 | none =>
  obtain⟨r,h1,h2⟩:=B2q hk (w:=w) hkv (i:=0) h
  refine⟨r,by simpa using h1,?_⟩
  simpa only [Nat.zero_add] using h2
-- a key may be one
mutual
theorem FitE.check {Z:Nat→Prop} {w w1:World} (em:Bool):∀ {h:Nat} {t:TypeId} {x y:D} {b:Bool},FitE P h t x y b→∀ {d:Nat},h≤d→∀ {cs:List Value},D.rep Z w1 x cs→(Instr.checkKey em d t (valOf x.isAgg cs)).run P w = .ok () w
 | _,_,_,_,_,.bool a b hu,d,hd,cs,hx=>by
  obtain⟨d,rfl⟩:∃ e,d=e+1:=⟨d-1,by omega⟩
  cases hx
  simp [Instr.checkKey,valOf,D.isAgg,run_underlying hu]
 | _,_,_,_,_,.int a b hu,d,hd,cs,hx=>by
  obtain⟨d,rfl⟩:∃ e,d=e+1:=⟨d-1,by omega⟩
  cases hx
  simp [Instr.checkKey,valOf,D.isAgg,run_underlying hu]
 | _,_,_,_,_,.str a b hu,d,hd,cs,hx=>by
  obtain⟨d,rfl⟩:∃ e,d=e+1:=⟨d-1,by omega⟩
  cases hx
  simp [Instr.checkKey,valOf,D.isAgg,run_underlying hu]
 | _,_,_,_,_,.st (t:=t) (fs:=fs) hu hl hs hf,d,hd,cs,hx=>by
  obtain⟨d,rfl⟩:∃ e,d=e+1:=⟨d-1,by omega⟩
  have:=FitF.check (w:=w) em hf (d:=d) (by omega) (px:=[]) rfl hx
  simp only [valOf,D.isAgg,if_true]
  unfold Instr.checkKey
  simp only [Sem.run_bind,run_underlying hu,Result.andThen_ok]
  rw [← Array.forIn_toList,hl]
  simp at this
  simp [this]
theorem FitF.check {Z:Nat→Prop} {w w1:World} (em:Bool):∀ {h o:Nat} {fs:List Field} {xs ys:List D} {b:Bool},FitF P h o fs xs ys b→∀ {d:Nat},h≤d→∀ {px cs:List Value},px.length=o→D.repL Z w1 xs cs →
  ((forIn fs PUnit.unit fun f (_:PUnit)=>if f.name ≠ "_" then (do Instr.checkKey em d f.type (← part f.type (px++cs).toArray f.offset);pure (ForInStep.yield PUnit.unit)) else pure (ForInStep.yield PUnit.unit):Sem PUnit)).run P w = .ok () w
 | _,_,_,_,_,_,.nil,d,_,px,cs,_,_=>by simp
 | _,_,_,_,_,_,.cons (f:=f) (x:=x) (y:=y) (b:=b) hn ho ht hx hy he hf,d,hd,px,cs,hpx,hrx=>by
  obtain⟨c1,c2,rfl,h1,h2⟩:=hrx
  have l1:=D.rep_len _ _ h1
  obtain⟨hxs,hxa⟩:=hx
  have s1:∀ {ag:Bool},x.isAgg=ag→ag=false→x.sz=1:=fun h e=>D.sz_one (h.trans e)
  have p1:=A4x ht w px c1 c2 (l1.trans hxs) (fun e=>by rw [← hxs];exact s1 hxa e) (hpx.trans ho.symm)
  have pe:=FitE.check (w:=w) em he (d:=d) hd h1
  rw [hxa] at pe
  have ih:=FitF.check (w:=w) em hf (d:=d) hd (px:=px++c1) (by simp;omega) h2
  rw [List.append_assoc] at p1
  simp only [List.append_assoc] at ih
  rw [List.forIn_cons]
  simp only [hn,ne_eq,not_false_eq_true,if_true,Sem.run_bind,p1,pe,Result.andThen_ok,Sem.run_pure]
  simpa using ih
end
end Go.Vc
/- Maps: the operations. -/
namespace Go.Vc
open Go
variable {P:Program} {B:Base} {ops:Array Oper}
def setBlk (w:World) (b:Nat) (o:Obj):World:={ w with heap:=w.heap.setIfInBounds b o }
theorem Sim.setBlkF {env:Env} {ob:Obs} {a:Act} {w:World} {σ:Nat→Option Nat} {Z:Nat→Prop} (s:Sim B env ob a w σ Z) {n b:Nat} {o o':Ob} {c:Obj} (hn:ob n=some (some o)) (hb:σ n=some b) (hlt:b<w.heap.size) (hsh:(Vc.setBlk w b c).shape? b=w.shape? b)
  (ho:∀ ob',Move ob ob' σ σ Z Z w (Vc.setBlk w b c)→o'.rep ob' σ Z (Vc.setBlk w b c) n) (hF:Foot B.w0.heap.size B.own (updO ob n (some o')) σ Z (Vc.setBlk w b c)) :
  Sim B env (updO ob n (some o')) a (Vc.setBlk w b c) σ Z:=by
 have hl:live ob n:=⟨o,hn⟩
 have hold:∀ k,k≠b→(Vc.setBlk w b c).heap[k]? = w.heap[k]? :=fun k hk=>by
  unfold Vc.setBlk;simp [Ne.symm hk]
 have hsize:(Vc.setBlk w b c).heap.size=w.heap.size:=by unfold Vc.setBlk;simp
 have m:Move ob (updO ob n (some o')) σ σ Z Z w (Vc.setBlk w b c):=by
  refine⟨⟨fun _ h=>h,fun k h=>hold k (fun hk=>(s.blk n b hl hb).1 (hk ▸ h))⟩,fun m h=>A0i h,fun m hu hm=>⟨?_,rfl⟩,fun m k hu hm hk => ?_⟩
  ·rw [D6] at hm
   by_cases h:m=n
   ·rw [h];exact hl
   ·rwa [if_neg h] at hm
  ·by_cases h:k=b
   ·subst h;exact hsh
   ·simp only [World.shape?,hold k h]
 refine { s with env:=?_,obj:=?_,inj:=?_,blk:=?_,zlt:=?_,pin:=?_,shp:=?_,size:=?_,block:=?_,os:=s.os,tape:=s.tape,output:=s.output,foot:=hF }
 ·intro k x hk
  obtain⟨v,h1,h2⟩:=s.env k x hk
  exact⟨v,h1,h2.move m⟩
 ·intro q o'' hq
  by_cases h:q=n
  ·subst h
   simp only [updO,if_true,Option.some.injEq] at hq
   subst hq
   exact ho _ m
  ·simp only [updO,if_neg h] at hq
   exact Ob.rep_move m (s.obj q o'' hq) rfl (fun k hk=>hold k (fun e=>h (s.inj q n b ⟨_,hq⟩ hl (e ▸ hk) hb)))
 ·intro p q k hp hq
  rw [D6] at hp hq
  refine s.inj p q k ?_ ?_
  ·by_cases h:p=n
   ·rw [h];exact hl
   ·rwa [if_neg h] at hp
  ·by_cases h:q=n
   ·rw [h];exact hl
   ·rwa [if_neg h] at hq
 ·intro p k hp
  rw [D6] at hp
  refine s.blk p k ?_
  by_cases h:p=n
  ·rw [h];exact hl
  ·rwa [if_neg h] at hp
 ·intro k hz;have:=s.zlt k hz;rw [hsize];exact this
 ·intro p k hpin hp
  rw [D6] at hp
  refine s.pin p k hpin ?_
  by_cases h:p=n
  ·rw [h];exact hl
  ·rwa [if_neg h] at hp
 ·intro p k hpin hp
  rw [D6] at hp
  have hlp:live ob p:=by
   by_cases h:p=n
   ·rw [h];exact hl
   ·rwa [if_neg h] at hp
  rw [← s.shp p k hpin hlp]
  by_cases h:k=b
  ·subst h;exact hsh
  ·simp only [World.shape?,hold k h]
 ·rw [hsize];exact s.size
 ·intro k hk hk'
  have hne:k≠b:=fun e=>by
   subst e
   rcases(s.blk n k hl hb).2 with h | h
   ·omega
   ·exact hk' h
  rw [hold k hne]
  exact s.block k hk hk'
theorem Sim.setBlk {env:Env} {ob:Obs} {a:Act} {w:World} {σ:Nat→Option Nat} {Z:Nat→Prop} (s:Sim B env ob a w σ Z) {n b:Nat} {o o':Ob} {c:Obj} (hn:ob n=some (some o)) (hb:σ n=some b) (hlt:b<w.heap.size) (hsh:(Vc.setBlk w b c).shape? b=w.shape? b)
  (ho:∀ ob',Move ob ob' σ σ Z Z w (Vc.setBlk w b c)→o'.rep ob' σ Z (Vc.setBlk w b c) n) (hr:∀ r,o' ≠ .reg r:=by intro r h;cases h) :
  Sim B env (updO ob n (some o')) a (Vc.setBlk w b c) σ Z:=by
 have hl:live ob n:=⟨o,hn⟩
 refine s.setBlkF hn hb hlt hsh ho (s.footSet hl hb (fun k hk => ?_) ?_ hr)
 ·unfold Vc.setBlk;simp [Ne.symm hk]
 ·unfold Vc.setBlk;simp
theorem A4v {ob:Obs} {σ:Nat→Option Nat} {Z:Nat→Prop} {w:World} {v:Value} {n:Nat} (h:RepT ob σ Z w v (.mref n)) (hl:live ob n):∃ b,σ n=some b∧v = .map (some b):=by
 obtain⟨b,hb,hv⟩:=(And.left h).2 hl
 exact⟨b,hb,by simpa using hv⟩
theorem B5n {ob:Obs} {σ:Nat→Option Nat} {Z:Nat→Prop} {w:World} {n b:Nat} (hl:live ob n) (hb:σ n=some b):RepT ob σ Z w (.map (some b)) (.mref n) :=
 ⟨⟨hl.used,fun _=>⟨b,hb,rfl⟩⟩,.inr rfl⟩
section
variable {d:Nat} {x y i:Operand} {ty:TypeId} {pos:String} {af:Array Edge} {nt nt' nt'':List (Nat×V)}
section
variable {α β:Type} {f:α→D} {g:β→D} {eq:α→α→Bool} {kt et t:TypeId} {kd:TypeDesc} {nm:Nat} {l:List (α×β)} {k:α}
theorem B4b {env:Env} {ob:Obs} {a:Act} {w:World} {σ:Nat→Option Nat} {Z:Nat→Prop} (hu:P.underlying t=some (.map kt et)) (hk:P.underlying kt=some kd) (he:KeyEq P kt f eq) {z:β} (hz:TyZ P et (.d (g z))) (sm:Sim B env ob a w σ Z) (hob:ob nm=some (some (.blk (mapB (mpairs f g l))))) {kv mv:Value} (hm:RepT ob σ Z w mv (.mref nm)) (hkv:RepT ob σ Z w kv (.d (f k))) (ok:Bool) :
  ∃ v,DV Z w (g ((mget eq l k).getD z)) v∧(Instr.lookup t mv kv ok).run P w = .ok (if ok then .tuple #[v,.bool (mget eq l k).isSome] else v) w:=by
 obtain⟨b,hb,rfl⟩:=A4v hm ⟨_,hob⟩
 obtain⟨b',hb',ents,clock,hw,hl,hst⟩:=sm.obj nm _ hob
 have:b'=b:=Option.some.inj (hb'.symm.trans hb)
 subst this
 obtain⟨cs,rfl,hr⟩:=U6 hkv
 obtain⟨hh,hle,hfit⟩:=he.fit
 have hc:=(hfit k k).check (w:=w) ents.isEmpty (d:=10000) hle hr
 obtain⟨r,h1,h2⟩:=A8f (w:=w) hk he ⟨cs,rfl,hr⟩ hl
 have hg:(getObj b').run P w = .ok (.map ents clock) w:=by simp [getObj,Sem.run,hw]
 have hzr:=hz.run w
 unfold mget
 cases hq:mix eq k l with
 | none =>
  rw [hq] at h2
  subst h2
  refine⟨valOf (V.d (g z)).isAgg (V.d (g z)).enc,⟨_,rfl,?_⟩,?_⟩
  ·exact(V.rep_enc (ob:=ob) (σ:=σ) (Z:=Z) (w:=w) (.d (g z)) hz.plain).1
  ·cases ok<;>simp [Instr.lookup,run_underlying hu,hg,hc,h1,hzr]
 | some q =>
  rw [hq] at h2
  obtain⟨v,rfl,h3⟩:=h2
  refine⟨v,h3,?_⟩
  cases ok<;>simp [Instr.lookup,run_underlying hu,hg,hc,h1]
theorem OpJ.mlook2 (hu:P.underlying t=some (.map kt et)) (hk:P.underlying kt=some kd) (he:KeyEq P kt f eq) {z:β} (hz:TyZ P et (.d (g z))) (hN:d<B.N) (hx:Opd x (.mref nm) nt) (hi:Opd i (.d (f k)) nt') :
  OpJ P B ops ⟨some d,.lookup t x i true,ty,pos,af,none⟩ { nt:=nt++nt',no:=[(nm,.blk (mapB (mpairs f g l)))],wt:=[(d,.tup [.d (g ((mget eq l k).getD z)),.d (.bool (mget eq l k).isSome)])] } :=
 OpJ.run rfl rfl hN rfl fun env ob a w σ Z sm hne=>by
  obtain⟨h1,h2⟩:=E7 hne.1
  have hob:=hne.2.1 (nm,.blk (mapB (mpairs f g l))) (by simp)
  obtain⟨v,hv,hr⟩:=B4b hu hk he hz sm hob (hx B env ob a w σ Z sm h1) (hi B env ob a w σ Z sm h2) true
  refine⟨_,w,σ,Z,by simp only [execOp,Sem.run_bind,hr,Result.andThen_ok,Sem.run_pure];rfl,by rw [G4 _ rfl];exact sm,?_⟩
  rw [G4 _ rfl]
  exact⟨[v,.bool (mget eq l k).isSome],rfl,RepT.to (DV.to hv) rfl,RepT.to (O4 _) rfl,trivial⟩
theorem B0w {Z:Nat→Prop} {w:World} {v:β} {kv vv:Value} (hv:DV Z w (g v) vv) (hkv:DV Z w (f k) kv) (hsame:∀ a b,eq a b=true→f a=f b):∀ {l:List (α×β)} {es:List MapEntry} {j:Nat} {b:β},MapL Z w (mpairs f g l) es→mix eq k l=some (j,b) →
  MapL Z w (mpairs f g (mput eq l k v)) (es.modify j fun e => { e with key:=kv,val:=vv })
 | [],es,j,b,_,h=>by simp [mix] at h
 | p :: l,e :: es,j,b,hl,h=>by
  obtain⟨⟨h1,h2⟩,h3⟩:=hl
  unfold mix at h
  unfold mput
  by_cases hc:eq k p.1=true
  ·rw [if_pos hc] at h ⊢
   simp only [Option.some.injEq,Prod.mk.injEq] at h
   rw [← h.1,List.modify_zero_cons]
   have hkk:DV Z w (f p.1) kv:=by rw [← hsame _ _ hc];exact hkv
   exact⟨⟨hkk,hv⟩,h3⟩
  ·rw [if_neg hc] at h ⊢
   cases hq:mix eq k l with
   | none=>rw [hq] at h;simp at h
   | some q =>
    rw [hq] at h
    simp only [Option.map_some,Option.some.injEq,Prod.mk.injEq] at h
    rw [← h.1,List.modify_succ_cons]
    exact⟨⟨h1,h2⟩,B0w hv hkv hsame h3 hq⟩
 | p :: l,[],_,_,h,_=>h.elim
theorem B0x {Z:Nat→Prop} {w:World} {v:β} {kv vv:Value} (hv:DV Z w (g v) vv) (hkv:DV Z w (f k) kv) {clock:Nat}:∀ {l:List (α×β)} {es:List MapEntry},MapL Z w (mpairs f g l) es→mix eq k l=none →
  MapL Z w (mpairs f g (mput eq l k v)) (es++[{ key:=kv,val:=vv,born:=clock }])
 | [],[],_,_=>⟨⟨hkv,hv⟩,trivial⟩
 | p :: l,e :: es,hl,h=>by
  obtain⟨⟨h1,h2⟩,h3⟩:=hl
  unfold mix at h
  unfold mput
  by_cases hc:eq k p.1=true
  ·rw [if_pos hc] at h;cases h
  ·rw [if_neg hc] at h ⊢
   refine⟨⟨h1,h2⟩,B0x hv hkv h3 ?_⟩
   cases hq:mix eq k l with
   | none=>rfl
   | some q=>rw [hq] at h;simp at h
 | [],_ :: _,h,_=>h.elim
 | _ :: _,[],h,_=>h.elim
-- keys of one datum are the same cells
def plainV:Value→Bool
 | .bool _ | .int .. | .string _=>true
 | _=>false
mutual
theorem FitE.only {Z Z':Nat→Prop} {w w':World}:∀ {h:Nat} {t:TypeId} {x y:D} {b:Bool},FitE P h t x y b→∀ {c1 c2:List Value},D.rep Z w x c1→D.rep Z' w' x c2→c1=c2∧∀ v∈c1,plainV v=true
 | _,_,_,_,_,.bool a b hu,c1,c2,h1,h2=>by cases h1;cases h2;simp [plainV]
 | _,_,_,_,_,.int a b hu,c1,c2,h1,h2=>by cases h1;cases h2;simp [plainV]
 | _,_,_,_,_,.str a b hu,c1,c2,h1,h2=>by cases h1;cases h2;simp [plainV]
 | _,_,_,_,_,.st hu hl hs hf,c1,c2,h1,h2=>FitF.only hf h1 h2
theorem FitF.only {Z Z':Nat→Prop} {w w':World}:∀ {h o:Nat} {fs:List Field} {xs ys:List D} {b:Bool},FitF P h o fs xs ys b→∀ {c1 c2:List Value},D.repL Z w xs c1→D.repL Z' w' xs c2→c1=c2∧∀ v∈c1,plainV v=true
 | _,_,_,_,_,_,.nil,c1,c2,h1,h2=>by cases h1;cases h2;simp
 | _,_,_,_,_,_,.cons hn ho ht hx hy he hf,c1,c2,h1,h2=>by
  obtain⟨a1,a2,rfl,g1,g2⟩:=h1
  obtain⟨b1,b2,rfl,k1,k2⟩:=h2
  obtain⟨e1,p1⟩:=FitE.only he g1 k1
  obtain⟨e2,p2⟩:=FitF.only hf g2 k2
  subst e1;subst e2
  refine⟨rfl,fun v hv => ?_⟩
  rcases List.mem_append.1 hv with hv | hv
  ·exact p1 v hv
  ·exact p2 v hv
end
theorem A2l {v:Value} (h:plainV v=true) (n:Nat):Instr.sameBits n v v=true:=by
 cases v with
 | string s=>unfold Instr.sameBits;show(s.data==s.data)=true;simp
 | _=>simp_all [plainV,Instr.sameBits]
theorem B0y {α:Type} (p:α×α→Bool):∀ {l:List α},(∀ x∈l,p (x,x)=true)→(l.zip l).all p=true
 | [],_=>rfl
 | x :: l,h=>by simp [List.zip_cons_cons,h x (List.mem_cons_self ..),B0y p (l:=l) fun y hy=>h y (List.mem_cons_of_mem _ hy)]
theorem stays {x y:D} {b:Bool} {h:Nat} {t:TypeId} (hf:FitE P h t x y b) {Z Z':Nat→Prop} {w w1 w2:World} {v1 v2:Value} (h1:DV Z w1 x v1) (h2:DV Z' w2 x v2):(Instr.keyThatStays v1 v2).run P w = .ok v2 w:=by
 obtain⟨c1,rfl,r1⟩:=h1
 obtain⟨c2,rfl,r2⟩:=h2
 obtain⟨rfl,hp⟩:=hf.only r1 r2
 have hs:Instr.sameBits 10000 (valOf x.isAgg c1) (valOf x.isAgg c1)=true:=by
  cases hx:x.isAgg with
  | true =>
   simp only [valOf,if_true]
   rw [show(10000:Nat)=9999+1 from rfl]
   unfold Instr.sameBits
   simp only [beq_self_eq_true,Bool.true_and]
   exact B0y _ fun v hv=>A2l (hp v hv) _
  | false =>
   have hl:=D.rep_len x c1 r1
   rw [D.sz_one hx] at hl
   match c1,hl with
   | [c],_ =>
    simp only [valOf,Bool.false_eq_true,if_false,List.headD]
    exact A2l (hp c (List.mem_cons_self ..)) _
 simp [Instr.keyThatStays,hs]
theorem B2r {Z:Nat→Prop} {w:World} (hsame:∀ a b,eq a b=true→f a=f b):∀ {l:List (α×β)} {es:List MapEntry} {j:Nat} {b:β},MapL Z w (mpairs f g l) es→mix eq k l=some (j,b)→∃ e,es[j]? = some e∧DV Z w (f k) e.key
 | [],es,j,b,_,h=>by simp [mix] at h
 | p :: l,e :: es,j,b,hl,h=>by
  obtain⟨⟨h1,h2⟩,h3⟩:=hl
  unfold mix at h
  by_cases hc:eq k p.1=true
  ·rw [if_pos hc] at h
   simp only [Option.some.injEq,Prod.mk.injEq] at h
   rw [← h.1]
   exact⟨e,rfl,by rw [hsame _ _ hc];exact h1⟩
  ·rw [if_neg hc] at h
   cases hq:mix eq k l with
   | none=>rw [hq] at h;simp at h
   | some q =>
    rw [hq] at h
    simp only [Option.map_some,Option.some.injEq,Prod.mk.injEq] at h
    obtain⟨e',h4,h5⟩:=B2r hsame h3 hq
    rw [← h.1]
    exact⟨e',by simpa using h4,h5⟩
 | p :: l,[],_,_,h,_=>h.elim
theorem A76 (kv vv:Value):∀ (es:List MapEntry) (j:Nat),(es.modify j fun e => { e with key:=kv,val:=vv }).map (·.born)=es.map (·.born)
 | [],j=>by simp
 | e :: es,0=>by simp
 | e :: es,j+1=>by simp [List.modify_succ_cons,A76 kv vv es j]
theorem Stamps.modify {es:List MapEntry} {clock:Nat} (h:Stamps es clock) (kv vv:Value) (j:Nat):Stamps (es.modify j fun e => { e with key:=kv,val:=vv }) clock:=by
 have hb:=A76 kv vv es j
 refine⟨by rw [hb];exact h.apart,fun e he => ?_⟩
 have:e.born∈es.map (·.born):=by rw [← hb];exact List.mem_map_of_mem (f:=fun e:MapEntry=>e.born) he
 obtain⟨e',he',h2⟩:=List.mem_map.1 this
 rw [← h2];exact h.below e' he'
theorem Stamps.push {es:List MapEntry} {clock:Nat} (h:Stamps es clock) (kv vv:Value):Stamps (es++[{ key:=kv,val:=vv,born:=clock }]) (clock+1):=by
 refine⟨?_,fun e he => ?_⟩
 ·rw [List.map_append,List.nodup_append]
  refine⟨h.apart,by simp,fun a ha b hb e => ?_⟩
  obtain⟨e',he',h2⟩:=List.mem_map.1 ha
  simp only [List.map_cons,List.map_nil,List.mem_singleton] at hb
  have:=h.below e' he'
  omega
 ·rcases List.mem_append.1 he with he | he
  ·have:=h.below e he;omega
  ·rw [List.mem_singleton.1 he];exact Nat.lt_succ_self _
theorem OpJ.mput (hu:P.underlying t=some (.map kt et)) (hk:P.underlying kt=some kd) (he:KeyEq P kt f eq) {v:β} (hx:Opd x (.mref nm) nt) (hi:Opd i (.d (f k)) nt') (hy:Opd y (.d (g v)) nt'') :
  OpJ P B ops ⟨none,.mapUpdate t x i y,ty,pos,af,none⟩ { nt:=nt++(nt'++nt''),no:=[(nm,.blk (mapB (mpairs f g l)))],wo:=[(nm,some (.blk (mapB (mpairs f g (Vc.mput eq l k v)))))] } :=
 OpJ.run0 rfl rfl rfl fun env ob a w σ Z sm hne=>by
  obtain⟨h1,h2⟩:=E7 hne.1
  obtain⟨h2,h3⟩:=E7 h2
  have hob:=hne.2.1 (nm,.blk (mapB (mpairs f g l))) (by simp)
  obtain⟨b,hb,hv⟩:=A4v (hx B env ob a w σ Z sm h1) ⟨_,hob⟩
  obtain⟨b',hb',ents,clock,hw,hl,hst⟩:=sm.obj nm _ hob
  have:b'=b:=Option.some.inj (hb'.symm.trans hb)
  subst this
  have hkv:=U6 (hi B env ob a w σ Z sm h2)
  have hyv:=U6 (hy B env ob a w σ Z sm h3)
  have hkd:DV Z w (f k) (a.eval i):=hkv
  have hyd:DV Z w (g v) (a.eval y):=hyv
  obtain⟨hh,hle,hfit⟩:=he.fit
  obtain⟨cs,hcs,hr⟩:=hkv
  have hc:=(hfit k k).check (w:=w) false (d:=10000) hle hr
  rw [← hcs] at hc
  obtain⟨r,g1,g2⟩:=A8f (w:=w) hk he hkd hl
  have hg:(getObj b').run P w = .ok (.map ents clock) w:=by simp [getObj,Sem.run,hw]
  have hset:∀ o,(setObj b' o).run P w = .ok () (Vc.setBlk w b' o):=fun o=>by simp [setObj,Sem.run,hw,Vc.setBlk]
  have hlt:b'<w.heap.size:=(Array.getElem?_eq_some_iff.1 hw).1
  have hself:∀ o,(Vc.setBlk w b' o).heap[b']? = some o:=fun o=>by unfold Vc.setBlk;simp [hlt]
  cases hq:mix eq k l with
  | none =>
   rw [hq] at g2
   subst g2
   refine⟨Vc.setBlk w b' (.map (ents.push { key:=a.eval i,val:=a.eval y,born:=clock }) (clock+1)),σ,Z,.inl ?_,?_⟩
   ·simp [execOp,hv,Instr.mapUpdate,run_underlying hu,hg,hc,g1,hset]
   ·rw [N4 _ rfl]
    refine sm.setBlk hob hb hlt (by simp [World.shape?,hself,hw]) fun ob' m=>⟨b',hb,_,_,hself _,?_,?_⟩
    ·rw [Array.toList_push]
     exact B0x (hyd.ext m.ext) (hkd.ext m.ext) (hl.ext m.ext) hq
    ·rw [Array.toList_push]
     exact hst.push _ _
  | some q =>
   obtain⟨j,bb⟩:=q
   rw [hq] at g2
   obtain⟨vv,rfl,_⟩:=g2
   obtain⟨e,he1,he2⟩:=B2r he.same hl hq
   have hj:ents[j]? = some e:=by simpa using he1
   have hs:=stays (w:=w) (hfit k k) he2 hkd
   refine⟨Vc.setBlk w b' (.map (ents.modify j fun e => { e with key:=a.eval i,val:=a.eval y }) clock),σ,Z,.inl ?_,?_⟩
   ·simp [execOp,hv,Instr.mapUpdate,run_underlying hu,hg,hc,g1,hset,hj,hs]
   ·rw [N4 _ rfl]
    refine sm.setBlk hob hb hlt (by simp [World.shape?,hself,hw]) fun ob' m=>⟨b',hb,_,_,hself _,?_,?_⟩
    ·rw [Array.toList_modify]
     exact B0w (hyd.ext m.ext) (hkd.ext m.ext) he.same (hl.ext m.ext) hq
    ·rw [Array.toList_modify]
     exact hst.modify _ _ _
end
end
end Go.Vc
/- Maps: going through one, in whatever order. -/
namespace Go.Vc
open Go
variable {P:Program} {B:Base} {ops:Array Oper}
theorem MapL.get {Z:Nat→Prop} {w:World}:∀ {ps:List (D×D)} {es:List MapEntry} {j:Nat} {e:MapEntry},MapL Z w ps es→es[j]? = some e→∃ p,ps[j]? = some p∧DV Z w p.1 e.key∧DV Z w p.2 e.val
 | p :: _,e' :: _,0,e,h,he=>by
  simp only [List.getElem?_cons_zero,Option.some.injEq] at he
  subst he
  exact⟨p,rfl,h.1.1,h.1.2⟩
 | _ :: _,_ :: _,j+1,e,h,he=>by
  obtain⟨p,h1,h2⟩:=MapL.get h.2 (by simpa using he)
  exact⟨p,by simpa using h1,h2⟩
 | [],[],_,_,_,he=>by simp at he
 | [],_ :: _,_,_,h,_=>h.elim
 | _ :: _,[],_,_,h,_=>h.elim
section
variable {d:Nat} {x:Operand} {ty:TypeId} {pos:String} {af:Array Edge} {nt:List (Nat×V)} {kt et t:TypeId} {nm it:Nat} {ps:List (D×D)}
end
end Go.Vc
/- Maps: loops over all entries, in whatever order. -/
namespace Go.Vc
open Go
variable {P:Program} {B:Base} {ops:Array Oper}
section
variable {A S:Type} {Q:Exit→EL→OL→Prop}
end
section
variable {d:Nat} {x i:Operand} {ty:TypeId} {pos:String} {af:Array Edge} {nt nt':List (Nat×V)}
theorem OpJ.indexStr {t:TypeId} (hu:P.underlying t=some .string) {s:List UInt8} {k:IntKind} {n:Int} {b:UInt8} (h0:0≤n) (he:s[n.toNat]? = some b) (hN:d<B.N) (hx:Opd x (.d (.str s)) nt) (hi:Opd i (.d (.int k n)) nt') :
  OpJ P B ops ⟨some d,.index t x i,ty,pos,af,none⟩ { nt:=nt++nt',wt:=[(d,.d (.int .u8 (b.toNat:Int)))] } :=
 OpJ.pure rfl rfl hN fun env ob a w σ Z sm hne=>by
  obtain⟨h1,h2⟩:=E7 hne
  have hs:=A7v (hx B env ob a w σ Z sm h1)
  have hin:=K9 (hi B env ob a w σ Z sm h2)
  have hb:(⟨s.toArray⟩:ByteArray)[n.toNat]? = some b:=by
   have hlt:n.toNat<s.length:=(List.getElem?_eq_some_iff.1 he).1
   have hl2:n.toNat<(⟨s.toArray⟩:ByteArray).size:=by simpa [ByteArray.size] using hlt
   rw [getElem?_pos (⟨s.toArray⟩:ByteArray) n.toNat hl2]
   have:=(List.getElem?_eq_some_iff.1 he).2
   simp only [Option.some.injEq]
   rw [← this];rfl
  refine⟨.int .u8 (b.toNat:Int),?_,Q9 _ _⟩
  simp [execOp,hs,hin,Instr.index,asIntOf,run_underlying hu,h0,hb]
end
end Go.Vc

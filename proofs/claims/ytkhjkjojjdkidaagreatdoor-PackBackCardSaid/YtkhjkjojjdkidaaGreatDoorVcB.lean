/- Abstract values with references, named objects, the state, and the simulation. Nothing here names a program. -/
import Derived.Test.YtkhjkjojjdkidaaGreatDoorVcA
namespace Go.Vc
open Go
inductive V where
 | junk
 | d (x:D)
 | nils
 | ptr (n off:Nat) (path:List Nat)
 | dptr (x:D)
 | sref (n sz off len:Nat)
 | func (f:FuncId) (caps:List V)
 | st (fs:List V)
 | tup (vs:List V)
 | opt (g:Bool) (x:V)
 | mref (n:Nat)
 | full (sz:Nat) (es:List D)
 deriving Inhabited
structure Blk where
 holds:(Nat→Prop)→World→Nat→Prop
 move:∀ {Z Z':Nat→Prop} {w w':World} {b:Nat},Ext Z Z' w w'→w'.heap[b]? = w.heap[b]? → holds Z w b→holds Z' w' b
 lt:∀ {Z:Nat→Prop} {w:World} {b:Nat},holds Z w b→b<w.heap.size
instance:Inhabited Blk:=⟨⟨fun _ _ _=>False,fun _ _ h=>h,fun h=>h.elim⟩⟩
structure Know where
 holds:(Nat→Prop)→World→Prop
 move:∀ {Z Z':Nat→Prop} {w w':World},Ext Z Z' w w'→holds Z w→holds Z' w'
instance:Inhabited Know:=⟨⟨fun _ _=>False,fun _ h=>h⟩⟩
structure Reg where
 holds:(Nat→Prop)→World→(Nat→Prop)→Option Nat→Prop
 move:∀ {Z Z' Y:Nat→Prop} {w w':World} {m:Option Nat},Ext Z Z' w w'→(∀ b,Y b→w'.heap[b]? = w.heap[b]?)→(∀ b,m=some b→w'.heap[b]? = w.heap[b]?)→holds Z w Y m→holds Z' w' Y m
instance:Inhabited Reg:=⟨⟨fun _ _ _ _=>False,fun _ _ _ h=>h⟩⟩
inductive Ob where
 | box (t:TypeId) (x:V)
 | row (e:TypeId) (sz:Nat) (es:List D)
 | blk (s:Blk)
 | know (k:Know)
 | reg (r:Reg)
 deriving Inhabited
abbrev Obs:=Nat→Option (Option Ob)
def live (ob:Obs) (n:Nat):Prop:=∃ o,ob n=some (some o)
def used (ob:Obs) (n:Nat):Prop:=ob n≠none
theorem live.used {ob:Obs} {n:Nat} (h:live ob n):used ob n:=by obtain⟨o,h⟩:=h;simp [Vc.used,h]
def V.isTop:V→Bool
 | .tup _=>true
 | .opt .. => true
 | _=>false
def V.isAgg:V→Bool
 | .st _=>true
 | .d x=>x.isAgg
 | _=>false
mutual
def V.sz:V→Nat
 | .st fs=>V.szL fs
 | .d x=>x.sz
 | _=>1
def V.szL:List V→Nat
 | []=>0
 | f :: fs=>V.sz f+V.szL fs
end
mutual
def V.rep (ob:Obs) (σ:Nat→Option Nat) (Z:Nat→Prop) (w:World):V→List Value→Prop
 | .junk,_=>True
 | .d x,cs=>D.rep Z w x cs
 | .nils,cs=>cs=[.slice none 0 0]
 | .ptr n off _,cs=>used ob n∧(live ob n→∃ b,σ n=some b∧cs=[.pointer (some ⟨b,off,none⟩)])
 | .dptr x,cs=>∃ b o xs,cs=[.pointer (some ⟨b,o,none⟩)]∧Z b∧cellsAt w b o xs∧D.rep Z w x xs
 | .sref n sz off len,cs=>used ob n∧(live ob n→∃ a c,cs=[.slice a len c]∧len≤c∧c≤9223372036854775807 ∧
   ((σ n=none∧a=none∧off=0∧c=0) ∨
    ∃ b e,σ n=some b∧(c=0∨a=some ⟨b,off*sz,none⟩)∧w.shape? b=some (e,(off+c)*sz)∧(off=0→a=some ⟨b,0,none⟩)))
 | .func f caps,cs=>∃ cvs,cs=[.func (.func f) #[] cvs.toArray]∧V.repL ob σ Z w caps cvs
 | .st fs,cs=>V.repS ob σ Z w fs cs
 | .mref n,cs=>used ob n∧(live ob n→∃ b,σ n=some b∧cs=[.map (some b)])
 | .full sz es,cs=>(∃ a,cs=[.slice a es.length es.length])∧D.rep Z w (.list sz es) cs
 | .tup _,_=>False
 | .opt ..,_=>False
/-- each value one cell -/
def V.repL (ob:Obs) (σ:Nat→Option Nat) (Z:Nat→Prop) (w:World):List V→List Value→Prop
 | [],cs=>cs=[]
 | f :: fs,cs=>∃ c rest,cs=c :: rest∧c.oneCell'=true∧V.rep ob σ Z w f [c]∧V.repL ob σ Z w fs rest
def V.repS (ob:Obs) (σ:Nat→Option Nat) (Z:Nat→Prop) (w:World):List V→List Value→Prop
 | [],cs=>cs=[]
 | f :: fs,cs=>∃ c1 c2,cs=c1++c2∧c1.length=f.sz∧(∀ v∈c1,v.oneCell'=true)∧V.rep ob σ Z w f c1∧V.repS ob σ Z w fs c2
end
structure Move (ob ob':Obs) (σ σ':Nat→Option Nat) (Z Z':Nat→Prop) (w w':World):Prop where
 ext:Ext Z Z' w w'
 us:∀ n,used ob n→used ob' n
 lv:∀ n,used ob n→live ob' n→live ob n∧σ' n=σ n
 sh:∀ n b,used ob n→live ob' n→σ n=some b→w'.shape? b=w.shape? b
theorem Move.refl (ob:Obs) (σ:Nat→Option Nat) (Z:Nat→Prop) (w:World):Move ob ob σ σ Z Z w w :=
 ⟨Ext.refl _ _,fun _ h=>h,fun _ _ h=>⟨h,rfl⟩,fun _ _ _ _ _=>rfl⟩
mutual
theorem V.rep_move {ob ob':Obs} {σ σ':Nat→Option Nat} {Z Z':Nat→Prop} {w w':World} (m:Move ob ob' σ σ' Z Z' w w') :
  ∀ (x:V) (cs:List Value),V.rep ob σ Z w x cs→V.rep ob' σ' Z' w' x cs
 | .junk,_,_=>trivial
 | .d x,cs,h=>D.rep_ext m.ext x cs h
 | .nils,_,h=>h
 | .ptr n off p,cs,h=>⟨m.us n h.1,fun hl=>by
   obtain⟨l,e⟩:=m.lv n h.1 hl
   obtain⟨b,hb,hc⟩:=h.2 l
   exact⟨b,e.trans hb,hc⟩⟩
 | .mref n,cs,h=>⟨m.us n h.1,fun hl=>by
   obtain⟨l,e⟩:=m.lv n h.1 hl
   obtain⟨b,hb,hc⟩:=h.2 l
   exact⟨b,e.trans hb,hc⟩⟩
 | .full sz es,cs,h=>⟨h.1,D.rep_ext m.ext (.list sz es) cs h.2⟩
 | .dptr x,cs,h=>by
  obtain⟨b,o,xs,h1,h2,h3,h4⟩:=h
  exact⟨b,o,xs,h1,m.ext.sub b h2,h3.of_block (m.ext.same b h2),D.rep_ext m.ext x xs h4⟩
 | .sref n sz off len,cs,h=>⟨m.us n h.1,fun hl=>by
   obtain⟨l,e⟩:=m.lv n h.1 hl
   obtain⟨a,c,h1,h2,h3,h4⟩:=h.2 l
   refine⟨a,c,h1,h2,h3,?_⟩
   rcases h4 with ⟨h4,h5⟩ | ⟨b,t,hb,h4,h5,h6⟩
   ·exact .inl ⟨e.trans h4,h5⟩
   ·exact .inr ⟨b,t,e.trans hb,h4,(m.sh n b h.1 hl hb).trans h5,h6⟩⟩
 | .func f caps,cs,h=>by
  obtain⟨cvs,h1,h2⟩:=h
  exact⟨cvs,h1,V.repL_move m caps cvs h2⟩
 | .st fs,cs,h=>V.repS_move m fs cs h
 | .tup _,_,h=>h.elim
 | .opt ..,_,h=>h.elim
theorem V.repL_move {ob ob':Obs} {σ σ':Nat→Option Nat} {Z Z':Nat→Prop} {w w':World} (m:Move ob ob' σ σ' Z Z' w w') :
  ∀ (xs:List V) (cs:List Value),V.repL ob σ Z w xs cs→V.repL ob' σ' Z' w' xs cs
 | [],_,h=>h
 | x :: xs,cs,h=>by
  obtain⟨c,r,h1,h0,h2,h3⟩:=h
  exact⟨c,r,h1,h0,V.rep_move m x [c] h2,V.repL_move m xs r h3⟩
theorem V.repS_move {ob ob':Obs} {σ σ':Nat→Option Nat} {Z Z':Nat→Prop} {w w':World} (m:Move ob ob' σ σ' Z Z' w w') :
  ∀ (xs:List V) (cs:List Value),V.repS ob σ Z w xs cs→V.repS ob' σ' Z' w' xs cs
 | [],_,h=>h
 | x :: xs,cs,h=>by
  obtain⟨c1,c2,h1,h2,h3,h4,h5⟩:=h
  exact⟨c1,c2,h1,h2,h3,V.rep_move m x c1 h4,V.repS_move m xs c2 h5⟩
end
def RepV (ob:Obs) (σ:Nat→Option Nat) (Z:Nat→Prop) (w:World) (v:Value) (x:V):Prop :=
 if x.isAgg then ∃ cs:List Value,v = .agg cs.toArray∧V.rep ob σ Z w x cs else V.rep ob σ Z w x [v]∧(x = .junk∨v.oneCell'=true)
def RepVs (ob:Obs) (σ:Nat→Option Nat) (Z:Nat→Prop) (w:World):List Value→List V→Prop
 | [],[]=>True
 | v :: vs,x :: xs=>RepV ob σ Z w v x∧RepVs ob σ Z w vs xs
 | _,_=>False
def RepT (ob:Obs) (σ:Nat→Option Nat) (Z:Nat→Prop) (w:World) (v:Value):V→Prop
 | .tup xs=>∃ vs:List Value,v = .tuple vs.toArray∧RepVs ob σ Z w vs xs
 | .opt g x=>(g=true→RepV ob σ Z w v x)∧(g=false→v=undef)
 | x=>RepV ob σ Z w v x
section
variable {ob ob':Obs} {σ σ':Nat→Option Nat} {Z Z':Nat→Prop} {w w':World}
theorem RepV.move (m:Move ob ob' σ σ' Z Z' w w') {v:Value} {x:V} (h:RepV ob σ Z w v x):RepV ob' σ' Z' w' v x:=by
 unfold RepV at *
 by_cases hx:x.isAgg=true
 ·rw [if_pos hx] at h ⊢
  obtain⟨cs,h1,h2⟩:=h;exact⟨cs,h1,V.rep_move m x cs h2⟩
 ·rw [if_neg hx] at h ⊢
  exact⟨V.rep_move m x [v] h.1,h.2⟩
theorem RepVs.move (m:Move ob ob' σ σ' Z Z' w w'):∀ {vs:List Value} {xs:List V},RepVs ob σ Z w vs xs→RepVs ob' σ' Z' w' vs xs
 | [],[],_=>trivial
 | _ :: _,_ :: _,h=>⟨h.1.move m,RepVs.move m h.2⟩
 | [],_ :: _,h=>h.elim
 | _ :: _,[],h=>h.elim
theorem RepT.move (m:Move ob ob' σ σ' Z Z' w w') {v:Value} {x:V} (h:RepT ob σ Z w v x):RepT ob' σ' Z' w' v x:=by
 cases x with
 | tup xs=>obtain⟨vs,h1,h2⟩:=h;exact⟨vs,h1,h2.move m⟩
 | opt g x=>exact⟨fun e=>RepV.move m (h.1 e),h.2⟩
 | _=>exact RepV.move m h
theorem RepT.junk (v:Value):RepT ob σ Z w v .junk:=by simp [RepT,RepV,V.isAgg,V.rep]
theorem RepT.of {v:Value} {x:V} (h:RepV ob σ Z w v x) (ht:x.isTop=false):RepT ob σ Z w v x:=by
 cases x with
 | tup xs=>simp [V.isTop] at ht
 | opt g x=>simp [V.isTop] at ht
 | _=>exact h
theorem RepT.to {v:Value} {x:V} (h:RepT ob σ Z w v x) (ht:x.isTop=false):RepV ob σ Z w v x:=by
 cases x with
 | tup xs=>simp [V.isTop] at ht
 | opt g x=>simp [V.isTop] at ht
 | _=>exact h
end
def Ob.rep (ob:Obs) (σ:Nat→Option Nat) (Z:Nat→Prop) (w:World) (n:Nat):Ob→Prop
 | .box t x=>∃ b cs,σ n=some b∧w.heap[b]? = some (.cells cs t (0,0))∧(∀ v∈cs.toList,v.oneCell'=true)∧cs.size=x.sz∧V.rep ob σ Z w x cs.toList
 | .row e sz es=>0<sz∧(∀ x∈es,x.sz=sz)∧∃ v xs,w.ownsRow 0 e sz v es.length xs∧D.repL Z w es xs∧v.ownBlock=σ n∧(σ n=none→es=[])
 | .blk s=>∃ b,σ n=some b∧s.holds Z w b
 | .know k=>σ n=none∧k.holds Z w
 | .reg _=>∀ b,σ n=some b→b<w.heap.size
def isReg (ob:Obs) (n:Nat):Prop:=∃ r,ob n=some (some (.reg r))
def Foot (lo:Nat) (own:Nat→Prop) (ob:Obs) (σ:Nat→Option Nat) (Z:Nat→Prop) (w:World):Prop :=
 ∃ Y:Nat→Nat→Prop,(∀ n r,ob n=some (some (.reg r))→r.holds Z w (Y n) (σ n)) ∧
  ∀ n b,isReg ob n→Y n b→¬ Z b∧b<w.heap.size∧(lo≤b∨own b)∧(∀ m,live ob m→σ m≠some b)∧∀ m,isReg ob m→Y m b→m=n
theorem Foot.empty {lo:Nat} {own:Nat→Prop} {ob:Obs} {σ:Nat→Option Nat} {Z:Nat→Prop} {w:World} (h:∀ n r,ob n≠some (some (.reg r))):Foot lo own ob σ Z w :=
 ⟨fun _ _=>False,fun n r hn=>absurd hn (h n r),fun _ _ _ hy=>hy.elim⟩
theorem Foot.move {lo:Nat} {own:Nat→Prop} {ob ob':Obs} {σ σ':Nat→Option Nat} {Z Z':Nat→Prop} {w w':World} (F:Foot lo own ob σ Z w) (hx:Ext Z Z' w w') (hsz:w.heap.size≤w'.heap.size)
  (hreg:∀ n r,ob' n=some (some (.reg r))→ob n=some (some (.reg r))∧σ' n=σ n)
  (hmain:∀ n b,isReg ob' n→σ n=some b→w'.heap[b]? = w.heap[b]?)
  (hkeep:∀ b,¬ Z b→b<w.heap.size→(∀ m,live ob m→σ m≠some b)→w'.heap[b]? = w.heap[b]?)
  (hZ:∀ b,Z' b→Z b∨w.heap.size≤b∨∃ m,live ob m∧σ m=some b)
  (hlive:∀ m b,live ob' m→σ' m=some b→w.heap.size≤b∨∃ m',live ob m'∧σ m'=some b):Foot lo own ob' σ' Z' w':=by
 obtain⟨Y,h1,h2⟩:=F
 have back:∀ n,isReg ob' n→isReg ob n:=fun n ⟨r,hr⟩=>⟨r,(hreg n r hr).1⟩
 refine⟨Y,fun n r hn => ?_,fun n b hn hy => ?_⟩
 ·obtain⟨g1,g2⟩:=hreg n r hn
  rw [g2]
  refine r.move hx (fun b hy => ?_) (fun b hb=>hmain n b ⟨r,hn⟩ hb) (h1 n r g1)
  obtain⟨k1,k2,_,k4,_⟩:=h2 n b ⟨r,g1⟩ hy
  exact hkeep b k1 k2 k4
 ·obtain⟨k1,k2,k3,k4,k5⟩:=h2 n b (back n hn) hy
  refine⟨fun hz => ?_,Nat.lt_of_lt_of_le k2 hsz,k3,fun m hm hb => ?_,fun m hm hmy=>k5 m (back m hm) hmy⟩
  ·rcases hZ b hz with h | h | ⟨m,hm,hb⟩
   ·exact k1 h
   ·omega
   ·exact k4 m hm hb
  ·rcases hlive m b hm hb with h | ⟨m',hm',hb'⟩
   ·omega
   ·exact k4 m' hm' hb'
structure Base where
 w0:World
 own:Nat→Prop
 pin:Nat→Option (Option Nat)
 z0:Nat→Prop
 N:Nat
abbrev Env:=Nat→Option V
structure Sim (B:Base) (env:Env) (ob:Obs) (a:Act) (w:World) (σ:Nat→Option Nat) (Z:Nat→Prop):Prop where
 dfr:a.defers=[]
 len:a.tmps.size=B.N
 env:∀ k x,env k=some x→∃ v,a.tmps[k]? = some v∧RepT ob σ Z w v x
 obj:∀ n o,ob n=some (some o)→o.rep ob σ Z w n
 inj:∀ n m b,live ob n→live ob m→σ n=some b→σ m=some b→n=m
 blk:∀ n b,live ob n→σ n=some b→¬ Z b∧(B.w0.heap.size≤b∨B.own b)
 zlt:∀ b,Z b→b<w.heap.size
 pin:∀ n b,B.pin n=some b→live ob n→σ n=b
 shp:∀ n b,B.pin n=some (some b)→live ob n→w.shape? b=B.w0.shape? b
 os:w.os=B.w0.os
 tape:w.tape=B.w0.tape
 output:w.output=B.w0.output
 size:B.w0.heap.size≤w.heap.size
 zsub:∀ b,B.z0 b→Z b
 znew:∀ b,Z b→B.z0 b∨B.w0.heap.size≤b∨B.own b
 block:∀ k,k<B.w0.heap.size→¬ B.own k→w.heap[k]? = B.w0.heap[k]?
 foot:Foot B.w0.heap.size B.own ob σ Z w
def upd (env:Env) (k:Nat) (x:V):Env:=fun j=>if j=k then some x else env j
section
variable {B:Base} {env:Env} {ob:Obs} {a:Act} {w:World} {σ:Nat→Option Nat} {Z:Nat→Prop}
theorem Ob.lt {n:Nat} {o:Ob} (h:o.rep ob σ Z w n) {b:Nat} (hb:σ n=some b):b<w.heap.size:=by
 cases o with
 | box t x =>
  obtain⟨b',cs,h1,h2,_⟩:=h
  have:b'=b:=Option.some.inj (h1.symm.trans hb)
  subst this
  exact(Array.getElem?_eq_some_iff.1 h2).1
 | row e sz es =>
  obtain⟨_,_,v,xs,h1,_,h3,_⟩:=h
  exact(h1.lt b (h3.trans hb)).2
 | blk s =>
  obtain⟨b',h1,h2⟩:=h
  have:b'=b:=Option.some.inj (h1.symm.trans hb)
  subst this
  exact s.lt h2
 | know k=>rw [h.1] at hb;cases hb
 | reg r=>exact h b hb
theorem Sim.put (s:Sim B env ob a w σ Z) {k:Nat} (hk:k<B.N) {v:Value} {x:V} (h:RepT ob σ Z w v x) :
  Sim B (upd env k x) ob (a.put (some k) v) w σ Z :=
 { s with
  dfr:=s.dfr
  len:=by simpa [Act.put] using s.len
  env:=fun j y hj=>by
   unfold upd at hj
   by_cases he:j=k
   ·subst he
    simp only [if_true,Option.some.injEq] at hj
    subst hj
    exact⟨v,by simp [Act.put,s.len,hk],h⟩
   ·rw [if_neg he] at hj
    obtain⟨u,hu,hr⟩:=s.env j y hj
    exact⟨u,by simp [Act.put,Array.getElem?_setIfInBounds_ne (Ne.symm he),hu],hr⟩ }
theorem Sim.grow (s:Sim B env ob a w σ Z) {w':World} {Z':Nat→Prop} (hos:w'.os=w.os) (ht:w'.tape=w.tape) (ho:w'.output=w.output)
  (hsz:w.heap.size≤w'.heap.size) (hb:∀ k,k<w.heap.size→w'.heap[k]? = w.heap[k]?)
  (hZ:∀ b,Z b→Z' b) (hZ':∀ b,Z' b→Z b∨(w.heap.size≤b∧b<w'.heap.size)):Sim B env ob a w' σ Z':=by
 have hlt:∀ n b,live ob n→σ n=some b→b<w.heap.size:=fun n b ⟨o,h⟩ hb=>Ob.lt (s.obj n o h) hb
 have m:Move ob ob σ σ Z Z' w w':=⟨⟨hZ,fun b h=>hb b (s.zlt b h)⟩,fun _ h=>h,fun _ _ h=>⟨h,rfl⟩,fun n b _ hl hn=>by
  simp only [World.shape?,hb b (hlt n b hl hn)]⟩
 refine { s with env:=?_,obj:=?_,blk:=?_,zlt:=?_,shp:=?_,os:=hos.trans s.os,tape:=ht.trans s.tape,output:=ho.trans s.output,size:=Nat.le_trans s.size hsz,block:=?_,zsub:=fun b h=>hZ b (s.zsub b h),znew:=?_,foot:=?_ }
 ·intro k x hk
  obtain⟨v,h1,h2⟩:=s.env k x hk
  exact⟨v,h1,h2.move m⟩
 ·intro n o hn
  have h:=s.obj n o hn
  cases o with
  | box t x =>
   obtain⟨b,cs,h1,h2,h3,h4,h5⟩:=h
   exact⟨b,cs,h1,by rw [hb b (hlt n b ⟨_,hn⟩ h1)];exact h2,h3,h4,V.rep_move m x _ h5⟩
  | row e sz es =>
   obtain⟨h0,h00,v,xs,h1,h2,h3,h4⟩:=h
   refine⟨h0,h00,v,xs,?_,D.repL_ext m.ext es xs h2,h3,h4⟩
   refine h1.kept (w':=w') (row:=none) ⟨hos,ht,ho,hsz,fun k hk _=>hb k hk⟩ ?_
   cases v.ownBlock<;>simp
  | blk sp =>
   obtain⟨b,h1,h2⟩:=h
   exact⟨b,h1,sp.move m.ext (hb b (hlt n b ⟨_,hn⟩ h1)) h2⟩
  | know k=>exact⟨h.1,k.move m.ext h.2⟩
  | reg r=>exact fun b hb=>Nat.lt_of_lt_of_le (h b hb) hsz
 ·intro n b hl hn
  obtain⟨h1,h2⟩:=s.blk n b hl hn
  refine⟨fun hz => ?_,h2⟩
  rcases hZ' b hz with hz | ⟨hz,_⟩
  ·exact h1 hz
  ·have:=hlt n b hl hn;omega
 ·intro b hz
  rcases hZ' b hz with hz | ⟨_,hz⟩
  ·exact Nat.lt_of_lt_of_le (s.zlt b hz) hsz
  ·exact hz
 ·intro n b hp hl
  rw [← s.shp n b hp hl]
  simp only [World.shape?,hb b (hlt n b hl (s.pin n b hp hl))]
 ·intro b h
  rcases hZ' b h with h | ⟨h,_⟩
  ·exact s.znew b h
  ·exact .inr (.inl (Nat.le_trans s.size h))
 ·intro k hk ho'
  rw [hb k (Nat.lt_of_lt_of_le hk s.size)]
  exact s.block k hk ho'
 ·refine s.foot.move m.ext hsz (fun n r h=>⟨h,rfl⟩) (fun n b ⟨r,hr⟩ h=>hb b (hlt n b ⟨_,hr⟩ h)) (fun b _ hl _=>hb b hl) (fun b hz => ?_) (fun m' b hl h => .inr ⟨m',hl,h⟩)
  rcases hZ' b hz with hz | ⟨hz,_⟩
  ·exact .inl hz
  ·exact .inr (.inl hz)
theorem Sim.drew (s:Sim B env ob a w σ Z):Sim B env ob a w.drew σ Z :=
 s.grow rfl rfl rfl (Nat.le_refl _) (fun _ _=>rfl) (fun _ h=>h) (fun _ h => .inl h)
theorem Sim.allocZ (s:Sim B env ob a w σ Z) (o:Obj):Sim B env ob a (w.alloc o) σ (fun b=>Z b∨b=w.heap.size) :=
 s.grow rfl rfl rfl (by simp) (fun k hk=>Go.RowKit.Below.heap_alloc w o k hk) (fun _ h => .inl h) (fun b h=>by
  rcases h with h | h
  ·exact .inl h
  ·subst h;exact .inr ⟨Nat.le_refl _,by simp⟩)
theorem Sim.alloc (s:Sim B env ob a w σ Z) (o:Obj):Sim B env ob a (w.alloc o) σ Z :=
 s.grow rfl rfl rfl (by simp) (fun k hk=>Go.RowKit.Below.heap_alloc w o k hk) (fun _ h=>h) (fun _ h => .inl h)
end
end Go.Vc

/- How the simulation moves where memory is made or written; the operations on memory. -/
import Derived.Test.YtkhjkjojjdkidaaGreatDoorVcE
import Derived.Maps.AppendAt
namespace Go.Vc
open Go
variable {P:Program} {B:Base} {ops:Array Oper}
def updO (ob:Obs) (n:Nat) (x:Option Ob):Obs:=fun m=>if m=n then some x else ob m
def updS (σ:Nat→Option Nat) (n:Nat) (x:Option Nat):Nat→Option Nat:=fun m=>if m=n then x else σ m
theorem N4 {n:Nat} {x:Option Ob} (α:Eff) (h:α.wo=[(n,x)]) {ob:Obs}:α.obs ob=updO ob n x:=by
 funext k
 simp only [Eff.obs,h,A87,updO]
 by_cases hd:n=k
 ·subst hd;simp
 ·rw [if_neg hd,if_neg (Ne.symm hd)]
theorem A4o {n m:Nat} {x y:Option Ob} (α:Eff) (h:α.wo=[(m,y),(n,x)]) {ob:Obs}:α.obs ob=updO (updO ob n x) m y:=by
 funext k
 simp only [Eff.obs,h,F0 m,A87,updO]
 by_cases hd:m=k
 ·subst hd;simp
 ·rw [if_neg hd,if_neg (Ne.symm hd)]
  by_cases hd:n=k
  ·subst hd;simp
  ·rw [if_neg hd,if_neg (Ne.symm hd)]
def Base.ok (B:Base):Prop:=∀ n b,B.pin n=some b→n<1000
section
variable {env:Env} {ob:Obs} {a:Act} {w:World} {σ:Nat→Option Nat} {Z:Nat→Prop}
theorem D6 {n m:Nat} {x:Option Ob}:live (updO ob n x) m↔if m=n then x.isSome=true else live ob m:=by
 unfold live updO
 by_cases h:m=n
 ·simp only [h,if_true,Option.some.injEq]
  cases x<;>simp
 ·simp [h]
theorem A0i {n m:Nat} {x:Option Ob} (h:used ob m):used (updO ob n x) m:=by
 unfold used updO at *
 by_cases e:m=n
 ·simp [e]
 ·simpa [e] using h
theorem Sim.lt (s:Sim B env ob a w σ Z) {n b:Nat} (hl:live ob n) (hb:σ n=some b):b<w.heap.size:=by
 obtain⟨o,h⟩:=hl
 exact Ob.lt (s.obj n o h) hb
theorem Ob.rep_move {ob':Obs} {σ':Nat→Option Nat} {Z':Nat→Prop} {w':World} (m:Move ob ob' σ σ' Z Z' w w') {n:Nat} {o:Ob} (h:o.rep ob σ Z w n) (hs:σ' n=σ n)
  (hb:∀ b,σ n=some b→w'.heap[b]? = w.heap[b]?):o.rep ob' σ' Z' w' n:=by
 cases o with
 | box t x =>
  obtain⟨b,cs,h1,h2,h3,h4,h5⟩:=h
  exact⟨b,cs,hs.trans h1,(hb b h1).trans h2,h3,h4,V.rep_move m x _ h5⟩
 | row e sz es =>
  obtain⟨h0,h00,v,xs,h1,h2,h3,h4⟩:=h
  refine⟨h0,h00,v,xs,?_,D.repL_ext m.ext es xs h2,h3.trans hs.symm,fun hn=>h4 (hs.symm.trans hn)⟩
  obtain⟨g1,g2⟩:=h1
  refine⟨g1,?_⟩
  rcases g2 with g2 | ⟨g,cap,cur,k1,k2,k3,k4⟩
  ·exact .inl g2
  ·refine .inr ⟨g,cap,cur,k1,k2,?_,k4⟩
   rw [hb g (by rw [← h3,k1];rfl)]
   exact k3
 | blk s =>
  obtain⟨b,h1,h2⟩:=h
  exact⟨b,hs.trans h1,s.move m.ext (hb b h1) h2⟩
 | know k=>exact⟨hs.trans h.1,k.move m.ext h.2⟩
 | reg r =>
  intro b hσ
  have:=hb b (hs.symm.trans hσ)
  have hlt:=h b (hs.symm.trans hσ)
  rw [Array.getElem?_eq_getElem hlt] at this
  exact(Array.getElem?_eq_some_iff.1 this).1
theorem Sim.newObjF (s:Sim B env ob a w σ Z) (hB:B.ok) {nm:Nat} (hn:ob nm=none) (h1000:1000≤nm) {o:Ob} {c:Obj}
  (ho:∀ ob' σ',Move ob ob' σ σ' Z Z w (w.alloc c)→σ' nm=some w.heap.size→o.rep ob' σ' Z (w.alloc c) nm)
  (hF:Foot B.w0.heap.size B.own (updO ob nm (some o)) (updS σ nm (some w.heap.size)) Z (w.alloc c)) :
  Sim B env (updO ob nm (some o)) a (w.alloc c) (updS σ nm (some w.heap.size)) Z:=by
 have hne:∀ n,used ob n→n≠nm:=fun n hu e=>hu (e ▸ hn)
 have hold:∀ k,k<w.heap.size→(w.alloc c).heap[k]? = w.heap[k]? :=fun k hk=>Go.RowKit.Below.heap_alloc w c k hk
 have m:Move ob (updO ob nm (some o)) σ (updS σ nm (some w.heap.size)) Z Z w (w.alloc c):=by
  refine⟨⟨fun _ h=>h,fun b h=>hold b (s.zlt b h)⟩,fun n h=>A0i h,fun n hu hl => ?_,fun n b hu hl hb => ?_⟩
  ·have:=hne n hu
   rw [D6,if_neg this] at hl
   exact⟨hl,by simp [updS,this]⟩
  ·have:=hne n hu
   rw [D6,if_neg this] at hl
   simp only [World.shape?,hold b (s.lt hl hb)]
 refine { s with env:=?_,obj:=?_,inj:=?_,blk:=?_,zlt:=?_,pin:=?_,shp:=?_,size:=?_,block:=?_,os:=s.os,tape:=s.tape,output:=s.output,foot:=hF }
 ·intro k x hk
  obtain⟨v,h1,h2⟩:=s.env k x hk
  exact⟨v,h1,h2.move m⟩
 ·intro n o' hn'
  by_cases h:n=nm
  ·subst h
   simp only [updO,if_true,Option.some.injEq] at hn'
   subst hn'
   exact ho _ _ m (by simp [updS])
  ·simp only [updO,if_neg h] at hn'
   exact Ob.rep_move m (s.obj n o' hn') (by simp [updS,h]) (fun b hb=>hold b (s.lt ⟨_,hn'⟩ hb))
 ·intro p q b hp hq hpb hqb
  rw [D6] at hp hq
  by_cases h1:p=nm<;>by_cases h2:q=nm
  ·rw [h1,h2]
  ·rw [if_neg h2] at hq
   simp only [updS,h1,h2,if_true,if_false,Option.some.injEq] at hpb hqb
   have:=s.lt hq hqb
   omega
  ·rw [if_neg h1] at hp
   simp only [updS,h1,h2,if_true,if_false,Option.some.injEq] at hpb hqb
   have:=s.lt hp hpb
   omega
  ·rw [if_neg h1] at hp;rw [if_neg h2] at hq
   simp only [updS,h1,h2,if_false] at hpb hqb
   exact s.inj p q b hp hq hpb hqb
 ·intro n b hl hb
  rw [D6] at hl
  by_cases h:n=nm
  ·simp only [updS,h,if_true,Option.some.injEq] at hb
   subst hb
   exact⟨fun hz=>by have:=s.zlt _ hz;omega,.inl s.size⟩
  ·rw [if_neg h] at hl
   simp only [updS,h,if_false] at hb
   exact s.blk n b hl hb
 ·intro b hz;have:=s.zlt b hz;simp;omega
 ·intro n b hp hl
  have h:n≠nm:=fun e=>by have:=hB n b hp;omega
  rw [D6,if_neg h] at hl
  simp only [updS,h,if_false]
  exact s.pin n b hp hl
 ·intro n b hp hl
  have h:n≠nm:=fun e=>by have:=hB n b hp;omega
  rw [D6,if_neg h] at hl
  rw [← s.shp n b hp hl]
  simp only [World.shape?,hold b (s.lt hl (s.pin n b hp hl))]
 ·have:=s.size;simp;omega
 ·intro k hk hk'
  rw [hold k (Nat.lt_of_lt_of_le hk s.size)]
  exact s.block k hk hk'
theorem Sim.newObj (s:Sim B env ob a w σ Z) (hB:B.ok) {nm:Nat} (hn:ob nm=none) (h1000:1000≤nm) {o:Ob} {c:Obj}
  (ho:∀ ob' σ',Move ob ob' σ σ' Z Z w (w.alloc c)→σ' nm=some w.heap.size→o.rep ob' σ' Z (w.alloc c) nm) (hr:∀ r,o ≠ .reg r:=by intro r h;cases h) :
  Sim B env (updO ob nm (some o)) a (w.alloc c) (updS σ nm (some w.heap.size)) Z:=by
 have hold:∀ k,k<w.heap.size→(w.alloc c).heap[k]? = w.heap[k]? :=fun k hk=>Go.RowKit.Below.heap_alloc w c k hk
 refine s.newObjF hB hn h1000 ho ?_
 have hreg:∀ n r,updO ob nm (some o) n=some (some (.reg r))→n≠nm∧ob n=some (some (.reg r)):=fun n r h=>by
  unfold updO at h
  by_cases e:n=nm
  ·rw [if_pos e] at h;simp only [Option.some.injEq] at h;exact absurd h (hr r)
  ·rw [if_neg e] at h;exact⟨e,h⟩
 refine s.foot.move ⟨fun _ h=>h,fun b h=>hold b (s.zlt b h)⟩ (by simp) (fun n r h=>⟨(hreg n r h).2,by simp [updS,(hreg n r h).1]⟩) (fun n b ⟨r,h⟩ hb=>hold b (s.lt ⟨_,(hreg n r h).2⟩ hb)) (fun b _ hl _=>hold b hl) (fun b h => .inl h) fun m b hl hb => ?_
 rw [D6] at hl
 by_cases e:m=nm
 ·simp only [updS,if_pos e,Option.some.injEq] at hb;left;omega
 ·rw [if_neg e] at hl;simp only [updS,if_neg e] at hb;exact .inr ⟨m,hl,hb⟩
theorem Sim.footSet (s:Sim B env ob a w σ Z) {n b:Nat} {o':Ob} (hl:live ob n) (hb:σ n=some b) {w':World} (hold:∀ k,k≠b→w'.heap[k]? = w.heap[k]?) (hsz:w.heap.size≤w'.heap.size) (hr:∀ r,o' ≠ .reg r) :
  Foot B.w0.heap.size B.own (updO ob n (some o')) σ Z w':=by
 have hreg:∀ m r,updO ob n (some o') m=some (some (.reg r))→m≠n∧ob m=some (some (.reg r)):=fun m r h=>by
  unfold updO at h
  by_cases e:m=n
  ·rw [if_pos e] at h;simp only [Option.some.injEq] at h;exact absurd h (hr r)
  ·rw [if_neg e] at h;exact⟨e,h⟩
 refine s.foot.move ⟨fun _ h=>h,fun k h=>hold k (fun hk=>(s.blk n b hl hb).1 (hk ▸ h))⟩ hsz (fun m r h=>⟨(hreg m r h).2,rfl⟩) (fun m k ⟨r,h⟩ hk=>hold k fun e=>(hreg m r h).1 (s.inj m n b ⟨_,(hreg m r h).2⟩ hl (e ▸ hk) hb)) (fun k _ _ hk=>hold k fun e=>hk n hl (e ▸ hb)) (fun k h => .inl h) fun m k hm hk => ?_
 rw [D6] at hm
 refine .inr ⟨m,?_,hk⟩
 by_cases e:m=n
 ·rw [e];exact hl
 ·rwa [if_neg e] at hm
theorem Foot.same {lo:Nat} {own:Nat→Prop} (F:Foot lo own ob σ Z w) {n:Nat} {o':Ob} (hl:∀ m,live (updO ob n (some o')) m→live ob m) (hr:∀ r,o' ≠ .reg r):Foot lo own (updO ob n (some o')) σ Z w:=by
 refine F.move (Ext.refl _ _) (Nat.le_refl _) (fun m r h=>⟨?_,rfl⟩) (fun _ _ _ _=>rfl) (fun _ _ _ _=>rfl) (fun _ h => .inl h) fun m b h hb => .inr ⟨m,hl m h,hb⟩
 unfold updO at h
 by_cases e:m=n
 ·rw [if_pos e] at h;simp only [Option.some.injEq] at h;exact absurd h (hr r)
 ·rwa [if_neg e] at h
theorem Sim.setObjF (s:Sim B env ob a w σ Z) {n b e:Nat} {o o':Ob} {cur new:Array Value} (hn:ob n=some (some o)) (hb:σ n=some b) (hw:w.heap[b]? = some (.cells cur e (0,0))) (hsz:new.size=cur.size)
  (ho:∀ ob',Move ob ob' σ σ Z Z w (w.setRow b new)→o'.rep ob' σ Z (w.setRow b new) n)
  (hF:Foot B.w0.heap.size B.own (updO ob n (some o')) σ Z (w.setRow b new)) :
  Sim B env (updO ob n (some o')) a (w.setRow b new) σ Z:=by
 have hl:live ob n:=⟨o,hn⟩
 have hold:∀ k,k≠b→(w.setRow b new).heap[k]? = w.heap[k]? :=fun k hk=>A41 w b new k hk
 have hself:(w.setRow b new).heap[b]? = some (.cells new e (0,0)):=setRow_heap w b cur new e (0,0) hw
 have m:Move ob (updO ob n (some o')) σ σ Z Z w (w.setRow b new):=by
  refine⟨⟨fun _ h=>h,fun k h=>hold k (fun hk=>(s.blk n b hl hb).1 (hk ▸ h))⟩,fun m h=>A0i h,fun m hu hm=>⟨?_,rfl⟩,fun m k hu hm hk => ?_⟩
  ·rw [D6] at hm
   by_cases h:m=n
   ·rw [h];exact hl
   ·rwa [if_neg h] at hm
  ·by_cases h:k=b
   ·subst h;simp [World.shape?,hself,hw,hsz]
   ·simp only [World.shape?,hold k h]
 refine { s with env:=?_,obj:=?_,inj:=?_,blk:=?_,zlt:=?_,pin:=?_,shp:=?_,size:=?_,block:=?_,os:=s.os,tape:=s.tape,output:=s.output,foot:=hF }
 ·intro k x hk
  obtain⟨v,h1,h2⟩:=s.env k x hk
  exact⟨v,h1,h2.move m⟩
 ·intro q o'' hq
  by_cases h:q=n
  ·subst h
   simp only [updO,if_true,Option.some.injEq] at hq
   subst hq
   exact ho _ m
  ·simp only [updO,if_neg h] at hq
   exact Ob.rep_move m (s.obj q o'' hq) rfl (fun k hk=>hold k (fun e=>h (s.inj q n b ⟨_,hq⟩ hl (e ▸ hk) hb)))
 ·intro p q k hp hq
  rw [D6] at hp hq
  refine s.inj p q k ?_ ?_
  ·by_cases h:p=n
   ·rw [h];exact hl
   ·rwa [if_neg h] at hp
  ·by_cases h:q=n
   ·rw [h];exact hl
   ·rwa [if_neg h] at hq
 ·intro p k hp
  rw [D6] at hp
  refine s.blk p k ?_
  by_cases h:p=n
  ·rw [h];exact hl
  ·rwa [if_neg h] at hp
 ·intro k hz;have:=s.zlt k hz;simpa using this
 ·intro p k hpin hp
  rw [D6] at hp
  refine s.pin p k hpin ?_
  by_cases h:p=n
  ·rw [h];exact hl
  ·rwa [if_neg h] at hp
 ·intro p k hpin hp
  rw [D6] at hp
  have hlp:live ob p:=by
   by_cases h:p=n
   ·rw [h];exact hl
   ·rwa [if_neg h] at hp
  rw [← s.shp p k hpin hlp]
  by_cases h:k=b
  ·subst h;simp [World.shape?,hself,hw,hsz]
  ·simp only [World.shape?,hold k h]
 ·simpa using s.size
 ·intro k hk hk'
  have hne:k≠b:=fun e=>by
   subst e
   rcases(s.blk n k hl hb).2 with h | h
   ·omega
   ·exact hk' h
  rw [hold k hne]
  exact s.block k hk hk'
theorem Sim.setObj (s:Sim B env ob a w σ Z) {n b e:Nat} {o o':Ob} {cur new:Array Value} (hn:ob n=some (some o)) (hb:σ n=some b) (hw:w.heap[b]? = some (.cells cur e (0,0))) (hsz:new.size=cur.size)
  (ho:∀ ob',Move ob ob' σ σ Z Z w (w.setRow b new)→o'.rep ob' σ Z (w.setRow b new) n) (hr:∀ r,o' ≠ .reg r:=by intro r h;cases h) :
  Sim B env (updO ob n (some o')) a (w.setRow b new) σ Z:=by
 have hl:live ob n:=⟨o,hn⟩
 have hold:∀ k,k≠b→(w.setRow b new).heap[k]? = w.heap[k]? :=fun k hk=>A41 w b new k hk
 exact s.setObjF hn hb hw hsz ho (s.footSet hl hb hold (by simp) hr)
theorem Sim.kill (s:Sim B env ob a w σ Z) (n:Nat):Sim B env (updO ob n none) a w σ Z:=by
 have hl:∀ m,live (updO ob n none) m→m≠n∧live ob m:=fun m h=>by
  rw [D6] at h
  by_cases e:m=n
  ·rw [if_pos e] at h;simp at h
  ·rw [if_neg e] at h;exact⟨e,h⟩
 have m:Move ob (updO ob n none) σ σ Z Z w w:=⟨Ext.refl _ _,fun m h=>A0i h,fun m _ h=>⟨(hl m h).2,rfl⟩,fun _ _ _ _ _=>rfl⟩
 refine { s with env:=?_,obj:=?_,inj:=fun p q k hp hq=>s.inj p q k (hl p hp).2 (hl q hq).2,blk:=fun p k hp=>s.blk p k (hl p hp).2,pin:=fun p k hpin hp=>s.pin p k hpin (hl p hp).2,shp:=fun p k hpin hp=>s.shp p k hpin (hl p hp).2,foot:=?_ }
 ·intro k x hk
  obtain⟨v,h1,h2⟩:=s.env k x hk
  exact⟨v,h1,h2.move m⟩
 ·intro q o hq
  by_cases h:q=n
  ·subst h;simp [updO] at hq
  ·simp only [updO,if_neg h] at hq
   exact Ob.rep_move m (s.obj q o hq) rfl (fun _ _=>rfl)
 ·refine s.foot.move (Ext.refl _ _) (Nat.le_refl _) (fun m r h=>⟨?_,rfl⟩) (fun _ _ _ _=>rfl) (fun _ _ _ _=>rfl) (fun _ h => .inl h) (fun m b h hb => .inr ⟨m,(hl m h).2,hb⟩)
  unfold updO at h
  by_cases e:m=n
  ·rw [if_pos e] at h;simp at h
  ·rwa [if_neg e] at h
end
theorem OpJ.run {o:Oper} {d:Nat} {α:Eff} {v:V} (hg:o.guard=none) (hd:o.dst=some d) (hN:d<B.N) (hwt:α.wt=[(d,v)])
  (h:∀ (env:Env) (ob:Obs) (a:Act) (w:World) (σ:Nat→Option Nat) (Z:Nat→Prop),Sim B env ob a w σ Z→α.needs env ob →
   ∃ cv w' σ' Z',(execOp a.eval o).run P w = .ok (.value cv) w'∧Sim B env (α.obs ob) a w' σ' Z'∧RepT (α.obs ob) σ' Z' w' cv v):OpJ P B ops o α:=by
 intro Q env ob a w σ Z K s hn hK
 obtain⟨cv,w',σ',Z',hr,s',hv⟩:=h env ob a w σ Z s hn
 rw [if_pos (by simp [Region.wanted,hg])]
 unfold Oper.wp
 rw [hr,Oper.upon_value,hd]
 refine hK _ _ σ' Z' ?_
 rw [N2 _ hwt]
 exact s'.put hN hv
theorem OpJ.run0 {o:Oper} {α:Eff} (hg:o.guard=none) (hd:o.dst=none) (hwt:α.wt=[])
  (h:∀ (env:Env) (ob:Obs) (a:Act) (w:World) (σ:Nat→Option Nat) (Z:Nat→Prop),Sim B env ob a w σ Z→α.needs env ob →
   ∃ w' σ' Z',((execOp a.eval o).run P w = .ok .skip w'∨∃ cv,(execOp a.eval o).run P w = .ok (.value cv) w')∧Sim B env (α.obs ob) a w' σ' Z'):OpJ P B ops o α:=by
 intro Q env ob a w σ Z K s hn hK
 obtain⟨w',σ',Z',hr,s'⟩:=h env ob a w σ Z s hn
 rw [if_pos (by simp [Region.wanted,hg])]
 unfold Oper.wp
 have e:∀ v,a.put none v=a:=fun v=>rfl
 rcases hr with hr | ⟨cv,hr⟩
 ·rw [hr,Oper.upon_skip,hd,e]
  exact hK _ _ σ' Z' (by rw [A88 _ hwt];exact s')
 ·rw [hr,Oper.upon_value,hd,e]
  exact hK _ _ σ' Z' (by rw [A88 _ hwt];exact s')
section
variable {d:Nat} {x y i:Operand} {ty:TypeId} {pos:String} {af:Array Edge} {nt nt':List (Nat×V)}
theorem A1l {ob:Obs} {σ:Nat→Option Nat} {Z:Nat→Prop} {w:World} {v:Value} {n off:Nat} {p:List Nat} (h:RepT ob σ Z w v (.ptr n off p)) (hl:live ob n) :
  ∃ b,σ n=some b∧v = .pointer (some ⟨b,off,none⟩):=by
 obtain⟨b,hb,hv⟩:=(And.left h).2 hl
 exact⟨b,hb,by simpa using hv⟩
theorem B02 {ob:Obs} {σ:Nat→Option Nat} {Z:Nat→Prop} {w:World} {n off b:Nat} {p:List Nat} (hl:live ob n) (hb:σ n=some b):RepT ob σ Z w (.pointer (some ⟨b,off,none⟩)) (.ptr n off p) :=
 ⟨⟨hl.used,fun _=>⟨b,hb,rfl⟩⟩,.inr rfl⟩
theorem A8d {ob:Obs} {σ:Nat→Option Nat} {Z:Nat→Prop} {w:World} {v:Value} {x:D} (h:RepT ob σ Z w v (.dptr x)) :
  ∃ b o xs,v = .pointer (some ⟨b,o,none⟩)∧Z b∧cellsAt w b o xs∧D.rep Z w x xs:=by
 obtain⟨b,o,xs,hv,h2⟩:=And.left h
 exact⟨b,o,xs,by simpa using hv,h2⟩
theorem B2m {ob:Obs} {σ:Nat→Option Nat} {Z:Nat→Prop} {w:World} {b o:Nat} {xs:List Value} {x:D} (hz:Z b) (hc:cellsAt w b o xs) (hr:D.rep Z w x xs):RepT ob σ Z w (.pointer (some ⟨b,o,none⟩)) (.dptr x) :=
 ⟨⟨b,o,xs,rfl,hz,hc,hr⟩,.inr rfl⟩
theorem A74 {s:TypeId} {fs:Array Field} {f:Nat} {fl:Field} {o n:Nat} {ag:Bool} (hs:P.underlying s=some (.struct fs)) (hf:fs[f]? = some fl) (ho:fl.offset=o) (ht:TyS P fl.type n ag) (hn:n≠0) (w:World) (b off:Nat) :
  (Instr.fieldAt s (.pointer (some ⟨b,off,none⟩)) f).run P w = .ok (.pointer (some ⟨b,off+o,none⟩)) w:=by
 have hsz:=ht.run_size w
 simp [Instr.fieldAt,run_underlying hs,hf,Instr.sureAddr,fieldPlace,hsz,hn,A0h,ho]
theorem OpJ.fieldP {s:TypeId} {fs:Array Field} {f:Nat} {fl:Field} {o n:Nat} {ag:Bool} (hs:P.underlying s=some (.struct fs)) (hf:fs[f]? = some fl) (ho:fl.offset=o) (ht:TyS P fl.type n ag) (hn:n≠0)
  {nm off:Nat} {p:List Nat} {obj:Ob} (hN:d<B.N) (hx:Opd x (.ptr nm off p) nt) :
  OpJ P B ops ⟨some d,.fieldAddr s x f,ty,pos,af,none⟩ { nt,no:=[(nm,obj)],wt:=[(d,.ptr nm (off+o) (p++[f]))] } :=
 OpJ.run rfl rfl hN rfl fun env ob a w σ Z sm hne=>by
  have hl:live ob nm:=⟨obj,hne.2.1 (nm,obj) (by simp)⟩
  obtain⟨b,hb,hv⟩:=A1l (hx B env ob a w σ Z sm hne.1) hl
  refine⟨.pointer (some ⟨b,off+o,none⟩),w,σ,Z,?_,by rw [G4 _ rfl];exact sm,by rw [G4 _ rfl];exact B02 hl hb⟩
  simp only [execOp,hv,Sem.run_bind,A74 hs hf ho ht hn,Result.andThen_ok];rfl
theorem OpJ.fieldD {s:TypeId} {fs:Array Field} {f:Nat} {fl:Field} {o n:Nat} {ag:Bool} (hs:P.underlying s=some (.struct fs)) (hf:fs[f]? = some fl) (ho:fl.offset=o) (ht:TyS P fl.type n ag) (hn:n≠0)
  {ds:List D} {e:D} (he:ds[f]? = some e) (hoff:D.szL (ds.take f)=o) (hN:d<B.N) (hx:Opd x (.dptr (.st ds)) nt) :
  OpJ P B ops ⟨some d,.fieldAddr s x f,ty,pos,af,none⟩ { nt,wt:=[(d,.dptr e)] } :=
 OpJ.pure rfl rfl hN fun env ob a w σ Z sm hne=>by
  obtain⟨b,off,xs,hv,hz,hc,hr⟩:=A8d (hx B env ob a w σ Z sm hne)
  obtain⟨c1,c2,c3,h1,h2,h3,h4,_⟩:=V4 (Z:=Z) (w:=w) hr he
  refine⟨.pointer (some ⟨b,off+o,none⟩),?_,B2m hz (xs:=c2) (fun j v hj => ?_) h4⟩
  ·simp only [execOp,hv,Sem.run_bind,A74 hs hf ho ht hn,Result.andThen_ok];rfl
  ·have hlt:j<c2.length:=(List.getElem?_eq_some_iff.1 hj).1
   have:=hc (o+j) v (by rw [h1,List.append_assoc,List.getElem?_append_right (by omega),show o+j-c1.length=j from by omega,List.getElem?_append_left hlt];exact hj)
   rwa [← Nat.add_assoc] at this
theorem A3r {ob:Obs} {σ:Nat→Option Nat} {Z:Nat→Prop} {w:World} {v:Value} {sz:Nat} {es:List D} (h:RepT ob σ Z w v (.d (.list sz es))) :
  ∃ a c,v = .slice a es.length c∧es.length≤c∧c≤9223372036854775807∧(es=[]∨∃ b o,a=some ⟨b,o,none⟩∧Z b∧(∀ e∈es,e.sz=sz)∧D.repE Z w sz es b o):=by
 obtain⟨a,c,hv,h2⟩:=And.left h
 exact⟨a,c,by simpa using hv,h2⟩
theorem OpJ.indexD {t e:TypeId} {sz:Nat} {ag:Bool} (hu:P.underlying t=some (.slice e)) (ht:TyS P e sz ag) {es:List D} {k:IntKind} {n:Int} {el:D} (h0:0≤n) (he:es[n.toNat]? = some el) (hN:d<B.N)
  (hx:Opd x (.d (.list sz es)) nt) (hi:Opd i (.d (.int k n)) nt') :
  OpJ P B ops ⟨some d,.indexAddr t x i,ty,pos,af,none⟩ { nt:=nt++nt',wt:=[(d,.dptr el)] } :=
 OpJ.pure rfl rfl hN fun env ob a w σ Z sm hne=>by
  obtain⟨h1,h2⟩:=E7 hne
  obtain⟨ad,c,hv,hc1,hc2,hd⟩:=A3r (hx B env ob a w σ Z sm h1)
  have hin:=K9 (hi B env ob a w σ Z sm h2)
  have hlt:n.toNat<es.length:=(List.getElem?_eq_some_iff.1 he).1
  rcases hd with hd | ⟨b,o,ha,hz,hs,hr⟩
  ·rw [hd] at hlt;simp at hlt
  ·obtain⟨cs,g1,g2⟩:=D.repE_get es b o n.toNat el hr he
   refine⟨.pointer (some ⟨b,o+n.toNat*sz,none⟩),?_,B2m hz g1 g2⟩
   have hb:n<(es.length:Int):=by omega
   simp [execOp,hv,hin,ha,Instr.indexAt,asIntOf,run_underlying hu,h0,hb,ht.run_size,A0h]
theorem A4p {ob:Obs} {σ:Nat→Option Nat} {Z:Nat→Prop} {w:World} {v:Value} {n sz off len:Nat} (h:RepT ob σ Z w v (.sref n sz off len)) (hl:live ob n) :
  ∃ a c,v = .slice a len c∧len≤c∧c≤9223372036854775807 ∧
   ((σ n=none∧a=none∧off=0∧c=0) ∨
    ∃ b e,σ n=some b∧(c=0∨a=some ⟨b,off*sz,none⟩)∧w.shape? b=some (e,(off+c)*sz)∧(off=0→a=some ⟨b,0,none⟩)):=by
 obtain⟨a,c,hv,h2⟩:=(And.left h).2 hl
 exact⟨a,c,by simpa using hv,h2⟩
theorem OpJ.indexS {t e:TypeId} {sz:Nat} {ag:Bool} (hu:P.underlying t=some (.slice e)) (ht:TyS P e sz ag) {nm off len:Nat} {obj:Ob} {k:IntKind} {n:Int} (h0:0≤n) (he:n.toNat<len) (hN:d<B.N)
  (hx:Opd x (.sref nm sz off len) nt) (hi:Opd i (.d (.int k n)) nt') :
  OpJ P B ops ⟨some d,.indexAddr t x i,ty,pos,af,none⟩ { nt:=nt++nt',no:=[(nm,obj)],wt:=[(d,.ptr nm ((off+n.toNat)*sz) [off+n.toNat])] } :=
 OpJ.run rfl rfl hN rfl fun env ob a w σ Z sm hne=>by
  obtain⟨h1,h2⟩:=E7 hne.1
  have hl:live ob nm:=⟨obj,hne.2.1 (nm,obj) (by simp)⟩
  obtain⟨ad,c,hv,hc1,hc2,hd⟩:=A4p (hx B env ob a w σ Z sm h1) hl
  have hin:=K9 (hi B env ob a w σ Z sm h2)
  rcases hd with ⟨_,_,_,hc⟩ | ⟨b,e',hb,ha,_,_⟩
  ·omega
  ·have ha':ad=some ⟨b,off*sz,none⟩:=ha.resolve_left (by omega)
   refine⟨.pointer (some ⟨b,(off+n.toNat)*sz,none⟩),w,σ,Z,?_,by rw [G4 _ rfl];exact sm,by rw [G4 _ rfl];exact B02 hl hb⟩
   have hb:n<(len:Int):=by omega
   simp [execOp,hv,hin,ha',Instr.indexAt,asIntOf,run_underlying hu,h0,hb,ht.run_size,A0h,Nat.add_mul]
theorem OpJ.loadD {t:TypeId} {n:Nat} {ag:Bool} (ht:TyS P t n ag) {e:D} (hag:e.isAgg=ag) (hsz:e.sz=n) (hN:d<B.N) (hx:Opd x (.dptr e) nt) :
  OpJ P B ops ⟨some d,.load t x,ty,pos,af,none⟩ { nt,wt:=[(d,.d e)] } :=
 OpJ.pure rfl rfl hN fun env ob a w σ Z sm hne=>by
  obtain⟨b,off,xs,hv,hz,hc,hr⟩:=A8d (hx B env ob a w σ Z sm hne)
  have hl:=D.rep_len e xs hr
  have h1:ag=false→n=1:=fun h=>by subst hag;subst hsz;exact D.sz_one h
  refine⟨valOf ag xs,?_,RepT.of (RepV.of_cells (x:=.d e) hr hl (D.rep_one e xs hr) ag hag) rfl⟩
  simp only [execOp,hv,Instr.loadAt,Instr.sureAddr,Sem.run_bind,Sem.run_pure,Result.andThen_ok,N3 ht hc (hl.trans hsz) h1]
theorem OpJ.loadB {t:TypeId} {n:Nat} {ag:Bool} (ht:TyS P t n ag) {nm off:Nat} {p:List Nat} {bt:TypeId} {c v:V} (hat:At c p off v) (hag:v.isAgg=ag) (hsz:v.sz=n) (hnt:v.isTop=false) (hN:d<B.N) (hx:Opd x (.ptr nm off p) nt) :
  OpJ P B ops ⟨some d,.load t x,ty,pos,af,none⟩ { nt,no:=[(nm,.box bt c)],wt:=[(d,v)] } :=
 OpJ.run rfl rfl hN rfl fun env ob a w σ Z sm hne=>by
  have hob:=hne.2.1 (nm,.box bt c) (by simp)
  have hl:live ob nm:=⟨_,hob⟩
  obtain⟨b,hb,hv⟩:=A1l (hx B env ob a w σ Z sm hne.1) hl
  obtain⟨b',cs,hb',hw,hone,hsize,hr⟩:=sm.obj nm _ hob
  have:b'=b:=Option.some.inj (hb'.symm.trans hb)
  subst this
  obtain⟨c1,c2,c3,g1,g2,g3,g4⟩:=hat.cells hr (by simpa using hsize)
  have hc:cellsAt w b' off c2:=fun j u hj=>by
   have hlt:j<c2.length:=(List.getElem?_eq_some_iff.1 hj).1
   rw [cell_of_row w b' (off+j) cs bt (0,0) hw]
   have:cs.toList[off+j]? = some u:=by rw [g1,List.append_assoc,List.getElem?_append_right (by omega),show off+j-c1.length=j from by omega,List.getElem?_append_left hlt];exact hj
   simpa using this
  have h1:ag=false→n=1:=fun h=>by subst hag;subst hsz;exact V.sz_one h
  refine⟨valOf ag c2,w,σ,Z,?_,by rw [G4 _ rfl];exact sm,?_⟩
  ·simp only [execOp,hv,Instr.loadAt,Instr.sureAddr,Sem.run_bind,Sem.run_pure,Result.andThen_ok,N3 ht hc (g3.trans hsz) h1]
  ·rw [G4 _ rfl]
   refine RepT.of (RepV.of_cells g4 g3 (fun u hu=>hone u (by rw [g1];simp [hu])) ag hag) hnt
theorem At.isD {x:V} {p:List Nat} {off:Nat} {y:V} (h:At x p off y):∀ e,x = .d e→∃ f,y = .d f:=by
 induction h with
 | here x=>intro e h;exact⟨e,h⟩
 | st _ _ _ _=>intro e h;cases h
 | dst _ _ _ ih=>intro _ _;exact ih _ rfl
 | arr _ _ ih=>intro _ _;exact ih _ rfl
theorem Ob.row_cells {ob:Obs} {σ:Nat→Option Nat} {Z:Nat→Prop} {w:World} {n e sz b:Nat} {es:List D} (h:(Ob.row e sz es).rep ob σ Z w n) (hb:σ n=some b) :
  ∃ cur cap xs,w.heap[b]? = some (.cells cur e (0,0))∧cur.size=cap*sz∧es.length≤cap∧cap≤9223372036854775807∧D.repL Z w es xs∧xs.length=es.length*sz∧cur.toList.take (es.length*sz)=xs:=by
 obtain⟨h0,h00,v,xs,h1,h2,h3,h4⟩:=h
 obtain⟨g1,g2⟩:=h1
 rcases g2 with ⟨g2,_⟩ | ⟨g,cap,cur,k1,_,k3,k4,k5,k6,k7⟩
 ·rw [g2] at h3;rw [hb] at h3;simp [Value.ownBlock] at h3
 ·have:g=b:=by rw [k1,hb] at h3;simpa [Value.ownBlock] using h3
  subst this
  exact⟨cur,cap,xs,k3,k6,k4,by simpa [maxLen] using k5,h2,g1,k7⟩
theorem OpJ.loadR {t:TypeId} {n:Nat} {ag:Bool} (ht:TyS P t n ag) {nm off k:Nat} {p:List Nat} {e sz:Nat} {es:List D} {el:D} {v:D} (hel:es[k]? = some el) {o:Nat} (hat:At (.d el) p o (.d v)) (hoff:off=k*sz+o) (hag:v.isAgg=ag) (hsz:v.sz=n)
  (hN:d<B.N) (hx:Opd x (.ptr nm off (k :: p)) nt) :
  OpJ P B ops ⟨some d,.load t x,ty,pos,af,none⟩ { nt,no:=[(nm,.row e sz es)],wt:=[(d,.d v)] } :=
 OpJ.run rfl rfl hN rfl fun env ob a w σ Z sm hne=>by
  have hob:=hne.2.1 (nm,.row e sz es) (by simp)
  have hl:live ob nm:=⟨_,hob⟩
  obtain⟨b,hb,hv⟩:=A1l (hx B env ob a w σ Z sm hne.1) hl
  have hro:=sm.obj nm _ hob
  obtain⟨cur,cap,xs,hw,hcs,_,_,hr,hxl,htake⟩:=Ob.row_cells hro hb
  obtain⟨c1,c2,c3,g1,g2,g3,g4,_⟩:=V4 (Z:=Z) (w:=w) hr hel
  have hk:k<es.length:=(List.getElem?_eq_some_iff.1 hel).1
  have hc1:c1.length=k*sz:=by rw [g2,D.szL_all _ (fun x hx=>hro.2.1 x (List.mem_of_mem_take hx)),List.length_take,Nat.min_eq_left (by omega)]
  obtain⟨d1,d2,d3,e1,e2,e3,e4⟩:=hat.cells (ob:=ob) (σ:=σ) (Z:=Z) (w:=w) (cs:=c2) g4 g3
  have hc:cellsAt w b off d2:=fun j u hj=>by
   have hlt:j<d2.length:=(List.getElem?_eq_some_iff.1 hj).1
   rw [cell_of_row w b (off+j) cur e (0,0) hw]
   have hx:xs[off+j]? = some u:=by
    rw [g1,e1,show c1++(d1++d2++d3)++c3=(c1++d1)++(d2++(d3++c3)) from by simp,List.getElem?_append_right (by simp;omega),show off+j-(c1++d1).length=j from by simp;omega,List.getElem?_append_left hlt]
    exact hj
   have:cur.toList[off+j]? = some u:=by
    rw [← htake] at hx
    rw [List.getElem?_take] at hx
    split at hx
    ·exact hx
    ·cases hx
   simpa using this
  have h1:ag=false→n=1:=fun h=>by subst hag;subst hsz;exact D.sz_one h
  refine⟨valOf ag d2,w,σ,Z,?_,by rw [G4 _ rfl];exact sm,?_⟩
  ·simp only [execOp,hv,Instr.loadAt,Instr.sureAddr,Sem.run_bind,Sem.run_pure,Result.andThen_ok,N3 ht hc (e3.trans hsz) h1]
  ·rw [G4 _ rfl]
   exact RepT.of (RepV.of_cells (x:=.d v) e4 e3 (D.rep_one v d2 e4) ag hag) rfl
theorem OpJ.storeB {t:TypeId} {n:Nat} {ag:Bool} (ht:TyS P t n ag) {nm off:Nat} {p:List Nat} {bt:TypeId} {c v c':V} (hset:SetAt c p off v c') (hsz:v.sz=n) (hcs:c'.sz=c.sz) (hj:v ≠ .junk) (hnt:v.isTop=false)
  (hx:Opd x (.ptr nm off p) nt) (hy:Opd y v nt') :
  OpJ P B ops ⟨none,.store t x y,ty,pos,af,none⟩ { nt:=nt++nt',no:=[(nm,.box bt c)],wo:=[(nm,some (.box bt c'))] } :=
 OpJ.run0 rfl rfl rfl fun env ob a w σ Z sm hne=>by
  obtain⟨h1,h2⟩:=E7 hne.1
  have hob:=hne.2.1 (nm,.box bt c) (by simp)
  have hl:live ob nm:=⟨_,hob⟩
  obtain⟨b,hb,hv⟩:=A1l (hx B env ob a w σ Z sm h1) hl
  obtain⟨b',cs,hb',hw,hone,hsize,hr⟩:=sm.obj nm _ hob
  have:b'=b:=Option.some.inj (hb'.symm.trans hb)
  subst this
  obtain⟨gr,gl,g1⟩:=(RepT.to (hy B env ob a w σ Z sm h2) hnt).full hj
  have hcells:=hset.cells hr (by simpa using hsize) gr (by simpa using gl) g1 hcs hone
  have hnl:(a.eval y).cells.toList.length=n:=by simpa [hsz] using gl
  have hrun:=A21 ht hw (v:=a.eval y) (by simpa [hsz] using gl) (by have:=hcells.2;simp [hnl] at this;omega) g1 (o:=off)
  refine⟨w.setRow b' (cs.toList.take off++(a.eval y).cells.toList++cs.toList.drop (off+n)).toArray,σ,Z,.inl ?_,?_⟩
  ·simp only [execOp,hv,Instr.storeAt,Instr.sureAddr,Sem.run_bind,Sem.run_pure,Result.andThen_ok,hrun]
  ·rw [N4 _ rfl]
   have hlen:(cs.toList.take off++(a.eval y).cells.toList++cs.toList.drop (off+n)).length=cs.size:=by
    have:=hcells.2;simp [hnl] at this ⊢;simp [hnl] at *;omega
   refine sm.setObj hob hb hw (by simpa using hlen) fun ob' m=>⟨b',_,hb,setRow_heap w b' cs _ bt (0,0) hw,?_,?_,?_⟩
   ·intro u hu
    simp only [List.mem_append] at hu
    rcases hu with (hu | hu) | hu
    ·exact hone u (List.mem_of_mem_take hu)
    ·exact g1 u hu
    ·exact hone u (List.mem_of_mem_drop hu)
   ·rw [hcs,← hsize];simpa using hlen
   ·have:=hcells.1
    rw [hnl] at this
    exact V.rep_move m c' _ this
theorem OpJ.storeR {t:TypeId} {n:Nat} {ag:Bool} (ht:TyS P t n ag) {nm off k:Nat} {p:List Nat} {e sz:Nat} {es es':List D} {el el':D} {v:D} (hel:es[k]? = some el) {o:Nat} (hset:SetAt (.d el) p o (.d v) (.d el')) (hoff:off=k*sz+o) (hes:es'=es.set k el')
  (hsz:v.sz=n) (hcs:el'.sz=el.sz) (hx:Opd x (.ptr nm off (k :: p)) nt) (hy:Opd y (.d v) nt') :
  OpJ P B ops ⟨none,.store t x y,ty,pos,af,none⟩ { nt:=nt++nt',no:=[(nm,.row e sz es)],wo:=[(nm,some (.row e sz es'))] } :=
 OpJ.run0 rfl rfl rfl fun env ob a w σ Z sm hne=>by
  obtain⟨h1,h2⟩:=E7 hne.1
  have hob:=hne.2.1 (nm,.row e sz es) (by simp)
  have hl:live ob nm:=⟨_,hob⟩
  obtain⟨b,hb,hv⟩:=A1l (hx B env ob a w σ Z sm h1) hl
  have hro:=sm.obj nm _ hob
  obtain⟨cur,cap,xs,hw,hcsz,hle,hcap,hr,hxl,htake⟩:=Ob.row_cells hro hb
  obtain⟨gr,gl,g1⟩:=(RepT.to (hy B env ob a w σ Z sm h2) rfl).full (by simp)
  obtain⟨c1,c2,c3,e1,e2,e3,e4,e5⟩:=V4 (Z:=Z) (w:=w) hr hel
  have hk:k<es.length:=(List.getElem?_eq_some_iff.1 hel).1
  have hc1:c1.length=k*sz:=by rw [e2,D.szL_all _ (fun x hx=>hro.2.1 x (List.mem_of_mem_take hx)),List.length_take,Nat.min_eq_left (by omega)]
  have hcells:=hset.cells (ob:=ob) (σ:=σ) (Z:=Z) (w:=w) (cs:=c2) e4 e3 gr (by simpa using gl) g1 hcs (D.rep_one el c2 e4)
  have hnl:(a.eval y).cells.toList.length=n:=by rw [← hsz];simpa [V.sz] using gl
  have hxs:xs.length≤cur.size:=by rw [hxl,hcsz];exact Nat.mul_le_mul_right _ hle
  have hfit:off+n≤xs.length:=by
   have:=hcells.2
   rw [hnl] at this
   rw [e1];simp;omega
  have hrun:=A21 ht hw (v:=a.eval y) (by simpa using hnl) (by omega) g1 (o:=off)
  refine⟨w.setRow b (cur.toList.take off++(a.eval y).cells.toList++cur.toList.drop (off+n)).toArray,σ,Z,.inl ?_,?_⟩
  ·simp only [execOp,hv,Instr.storeAt,Instr.sureAddr,Sem.run_bind,Sem.run_pure,Result.andThen_ok,hrun]
  ·rw [N4 _ rfl]
   have hcl:cur.toList.length=cur.size:=Array.length_toList
   have hlen:(cur.toList.take off++(a.eval y).cells.toList++cur.toList.drop (off+n)).length=cur.size:=by
    simp only [List.length_append,List.length_take,List.length_drop,hnl,hcl];omega
   refine sm.setObj hob hb hw (by simpa using hlen) fun ob' m => ?_
   have hnew:D.repL Z w es' (c1++(c2.take o++(a.eval y).cells.toList++c2.drop (o+n))++c3):=by
    rw [hes]
    have:=hcells.1
    rw [hnl] at this
    exact e5 el' _ this
   have hlen':es'.length=es.length:=by rw [hes];simp
   have hcur:cur.toList=xs++cur.toList.drop xs.length:=by
    have:=List.take_append_drop (es.length*sz) cur.toList
    rw [htake,← hxl] at this
    exact this.symm
   have hxe:(c1++(c2.take o++(a.eval y).cells.toList++c2.drop (o+n))++c3)=xs.take off++(a.eval y).cells.toList++xs.drop (off+n):=by
    have h2:=hcells.2
    rw [hnl] at h2
    rw [e1,hoff,← hc1,List.append_assoc c1 c2 c3,List.take_length_add_append,List.take_append_of_le_length (by omega),Nat.add_assoc,List.drop_length_add_append,List.drop_append_of_le_length (by omega)]
    simp
   refine⟨hro.1,fun y' hy' => ?_,.slice (some ⟨b,0,none⟩) es'.length cap,xs.take off++(a.eval y).cells.toList++xs.drop (off+n),⟨?_,.inr ⟨b,cap,_,rfl,Nat.zero_le _,setRow_heap w b cur _ e (0,0) hw,by omega,by simpa [maxLen] using hcap,?_,?_⟩⟩,?_,?_,?_⟩
   ·rw [hes] at hy'
    rcases List.mem_or_eq_of_mem_set hy' with hy' | hy'
    ·exact hro.2.1 y' hy'
    ·subst hy';rw [hcs];exact hro.2.1 el (List.mem_of_getElem? hel)
   ·rw [hlen',← hxl];simp only [List.length_append,List.length_take,List.length_drop,hnl];omega
   ·rw [← hcsz];simpa using hlen
   ·obtain⟨T,hT⟩:∃ T,cur.toList=xs++T:=⟨_,hcur⟩
    have t1:cur.toList.take off=xs.take off:=by rw [hT,List.take_append_of_le_length (by omega)]
    have t2:cur.toList.drop (off+n)=xs.drop (off+n)++T:=by rw [hT,List.drop_append_of_le_length (by omega)]
    rw [hlen',← hxl,t1,t2,← List.append_assoc]
    refine List.take_left' ?_
    simp only [List.length_append,List.length_take,List.length_drop,hnl];omega
   ·rw [← hxe];exact D.repL_ext m.ext es' _ hnew
   ·simp [Value.ownBlock,hb]
   ·intro hnone;rw [hb] at hnone;cases hnone
end
end Go.Vc

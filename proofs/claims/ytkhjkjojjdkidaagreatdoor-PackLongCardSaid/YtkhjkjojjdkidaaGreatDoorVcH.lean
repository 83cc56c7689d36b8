/- append, make, cuts of slices; function values. -/
import Derived.Test.YtkhjkjojjdkidaaGreatDoorVcG
namespace Go.Vc
open Go
variable {P:Program} {B:Base} {ops:Array Oper}
section
variable {env:Env} {ob:Obs} {a:Act} {w:World} {σ:Nat→Option Nat} {Z:Nat→Prop}
theorem Sim.rowNewF (s:Sim B env ob a w σ Z) (hB:B.ok) {nm:Nat} (hn:ob nm=none) (h1000:1000≤nm) {w1:World} {g g':Option Nat} (hg:w.grownBy w1 g)
  (hfree:∀ m b,live ob m→σ m=some b→some b≠g) (hfb:∀ b,g=some b→¬ Z b∧(B.w0.heap.size≤b∨B.own b)) (hat:g'=g∨g'=some w.heap.size)
  {o:Ob} (ho:∀ ob' σ',Move ob ob' σ σ' Z Z w w1→σ' nm=g'→o.rep ob' σ' Z w1 nm)
  (hF:Foot B.w0.heap.size B.own (updO ob nm (some o)) (updS σ nm g') Z w1) :
  Sim B env (updO ob nm (some o)) a w1 (updS σ nm g') Z:=by
 have hne:∀ n,used ob n→n≠nm:=fun n hu e=>hu (e ▸ hn)
 have hold:∀ m b,live ob m→σ m=some b→w1.heap[b]? = w.heap[b]? :=fun m b hm hb=>hg.block b (s.lt hm hb) (hfree m b hm hb)
 have hz:∀ b,Z b→w1.heap[b]? = w.heap[b]? :=fun b hz=>hg.block b (s.zlt b hz) (fun e=>(hfb b e.symm).1 hz)
 have hsz:=hg.size
 have m:Move ob (updO ob nm (some o)) σ (updS σ nm g') Z Z w w1:=by
  refine⟨⟨fun _ h=>h,hz⟩,fun n h=>A0i h,fun n hu hl => ?_,fun n b hu hl hb => ?_⟩
  ·have:=hne n hu
   rw [D6,if_neg this] at hl
   exact⟨hl,by simp [updS,this]⟩
  ·have:=hne n hu
   rw [D6,if_neg this] at hl
   simp only [World.shape?,hold n b hl hb]
 have hbad:∀ p b,live ob p→σ p=some b→g'≠some b:=by
  intro p b hp hb e
  rcases hat with h | h
  ·exact hfree p b hp hb (by rw [← h,e])
  ·rw [h] at e
   have:=s.lt hp hb
   simp at e;omega
 refine { s with env:=?_,obj:=?_,inj:=?_,blk:=?_,zlt:=fun b h=>Nat.lt_of_lt_of_le (s.zlt b h) hsz,pin:=?_,shp:=?_,size:=Nat.le_trans s.size hsz,block:=?_,os:=hg.os.trans s.os,tape:=hg.tape.trans s.tape,output:=hg.output.trans s.output,foot:=hF }
 ·intro k x hk
  obtain⟨v,h1,h2⟩:=s.env k x hk
  exact⟨v,h1,h2.move m⟩
 ·intro n o' hn'
  by_cases h:n=nm
  ·subst h
   simp only [updO,if_true,Option.some.injEq] at hn'
   subst hn'
   exact ho _ _ m (by simp [updS])
  ·simp only [updO,if_neg h] at hn'
   exact Ob.rep_move m (s.obj n o' hn') (by simp [updS,h]) (fun b hb=>hold n b ⟨_,hn'⟩ hb)
 ·intro p q b hp hq hpb hqb
  rw [D6] at hp hq
  by_cases h1:p=nm<;>by_cases h2:q=nm
  ·rw [h1,h2]
  ·rw [if_neg h2] at hq
   simp only [updS,h1,h2,if_true,if_false] at hpb hqb
   exact(hbad q b hq hqb hpb).elim
  ·rw [if_neg h1] at hp
   simp only [updS,h1,h2,if_true,if_false] at hpb hqb
   exact(hbad p b hp hpb hqb).elim
  ·rw [if_neg h1] at hp;rw [if_neg h2] at hq
   simp only [updS,h1,h2,if_false] at hpb hqb
   exact s.inj p q b hp hq hpb hqb
 ·intro n b hl hb
  rw [D6] at hl
  by_cases h:n=nm
  ·simp only [updS,h,if_true] at hb
   rcases hat with e | e
   ·exact hfb b (by rw [← e,hb])
   ·rw [e] at hb
    simp only [Option.some.injEq] at hb
    subst hb
    exact⟨fun h=>by have:=s.zlt _ h;omega,.inl s.size⟩
  ·rw [if_neg h] at hl
   simp only [updS,h,if_false] at hb
   exact s.blk n b hl hb
 ·intro n b hp hl
  have h:n≠nm:=fun e=>by have:=hB n b hp;omega
  rw [D6,if_neg h] at hl
  simp only [updS,h,if_false]
  exact s.pin n b hp hl
 ·intro n b hp hl
  have h:n≠nm:=fun e=>by have:=hB n b hp;omega
  rw [D6,if_neg h] at hl
  rw [← s.shp n b hp hl]
  simp only [World.shape?,hold n b hl (s.pin n b hp hl)]
 ·intro k hk hk'
  rw [hg.block k (Nat.lt_of_lt_of_le hk s.size) (fun e=>by
   rcases(hfb k e.symm).2 with h | h
   ·omega
   ·exact hk' h)]
  exact s.block k hk hk'
theorem Foot.grown {lo:Nat} {own:Nat→Prop} {ob0:Obs} (F:Foot lo own ob0 σ Z w) (hlt:∀ m b,live ob0 m→σ m=some b→b<w.heap.size) (hzl:∀ b,Z b→b<w.heap.size) {nm:Nat} (hn:ob nm=none) {w1:World} {g g':Option Nat} (hg:w.grownBy w1 g)
  (hr0:∀ n r,ob n=some (some (.reg r))→ob0 n=some (some (.reg r))) (hl0:∀ m,live ob m→live ob0 m) (hg0:∀ b,g=some b→¬ Z b∧∃ m,live ob0 m∧σ m=some b) (hfree:∀ m b,live ob m→σ m=some b→some b≠g) (hat:g'=g∨g'=some w.heap.size)
  {o:Ob} (hr:∀ r,o ≠ .reg r):Foot lo own (updO ob nm (some o)) (updS σ nm g') Z w1:=by
 have hreg:∀ n r,updO ob nm (some o) n=some (some (.reg r))→n≠nm∧ob n=some (some (.reg r)):=fun n r h=>by
  unfold updO at h
  by_cases e:n=nm
  ·rw [if_pos e] at h;simp only [Option.some.injEq] at h;exact absurd h (hr r)
  ·rw [if_neg e] at h;exact⟨e,h⟩
 refine F.move ⟨fun _ h=>h,fun b h=>hg.block b (hzl b h) fun e=>(hg0 b e.symm).1 h⟩ hg.size (fun n r h=>⟨hr0 n r (hreg n r h).2,by simp [updS,(hreg n r h).1]⟩) (fun n b ⟨r,h⟩ hb => ?_) (fun b _ hl hn'=>hg.block b hl fun e => ?_) (fun b h => .inl h) fun m b hl hb => ?_
 ·have:=(hreg n r h).2
  exact hg.block b (hlt n b ⟨_,hr0 n r this⟩ hb) (hfree n b ⟨_,this⟩ hb)
 ·obtain⟨m,h1,h2⟩:=(hg0 b e.symm).2
  exact hn' m h1 h2
 ·rw [D6] at hl
  by_cases e:m=nm
  ·simp only [updS,if_pos e] at hb
   rcases hat with h | h
   ·exact .inr (hg0 b (by rw [← h,hb])).2
   ·rw [h] at hb;simp only [Option.some.injEq] at hb;left;omega
  ·rw [if_neg e] at hl;simp only [updS,if_neg e] at hb;exact .inr ⟨m,hl0 m hl,hb⟩
theorem Sim.rowNew (s:Sim B env ob a w σ Z) {ob0:Obs} (s0:Sim B env ob0 a w σ Z) (hr0:∀ n,ob n=ob0 n∨ob n=some none) (hB:B.ok) {nm:Nat} (hn:ob nm=none) (h1000:1000≤nm) {w1:World} {g g':Option Nat} (hg:w.grownBy w1 g)
  (hfree:∀ m b,live ob m→σ m=some b→some b≠g) (hg0:∀ b,g=some b→∃ m,live ob0 m∧σ m=some b) (hat:g'=g∨g'=some w.heap.size)
  {o:Ob} (ho:∀ ob' σ',Move ob ob' σ σ' Z Z w w1→σ' nm=g'→o.rep ob' σ' Z w1 nm) (hr:∀ r,o ≠ .reg r:=by intro r h;cases h) :
  Sim B env (updO ob nm (some o)) a w1 (updS σ nm g') Z:=by
 have hfb:∀ b,g=some b→¬ Z b∧(B.w0.heap.size≤b∨B.own b):=fun b hb=>by
  obtain⟨m,h1,h2⟩:=hg0 b hb
  exact s0.blk m b h1 h2
 have h1:∀ n x,ob n=some (some x)→ob0 n=some (some x):=fun n x h=>by
  rcases hr0 n with e | e
  ·rw [← e];exact h
  ·rw [e] at h;simp at h
 exact s.rowNewF hB hn h1000 hg hfree hfb hat ho (s0.foot.grown (fun m b=>s0.lt) s0.zlt hn hg (fun n r=>h1 n _) (fun m ⟨x,hx⟩=>⟨x,h1 m x hx⟩) (fun b hb=>⟨(hfb b hb).1,hg0 b hb⟩) hfree hat hr)
theorem Sim.rowNew0 (s:Sim B env ob a w σ Z) (hB:B.ok) {nm:Nat} (hn:ob nm=none) (h1000:1000≤nm) {w1:World} {g':Option Nat} (hg:w.grownBy w1 none)
  (hat:g'=none∨g'=some w.heap.size)
  {o:Ob} (ho:∀ ob' σ',Move ob ob' σ σ' Z Z w w1→σ' nm=g'→o.rep ob' σ' Z w1 nm) (hr:∀ r,o ≠ .reg r:=by intro r h;cases h) :
  Sim B env (updO ob nm (some o)) a w1 (updS σ nm g') Z :=
 s.rowNew s (fun _ => .inl rfl) hB hn h1000 hg (fun _ _ _ _ e=>by cases e) (fun _ e=>by cases e) hat ho hr
theorem B5i (ob:Obs) (n:Nat):∀ m,updO ob n none m=ob m∨updO ob n none m=some none:=fun m=>by
 unfold updO;split
 ·exact .inr rfl
 ·exact .inl rfl
end
structure TyE (P:Program) (e sz bytes:Nat):Prop where
 info:(P.info? e).map (fun i=>(i.zero.map (·.cells.size),i.size,i.bytes))=some (some sz,sz,bytes)
 pos:0<sz
theorem TyE.get {e sz bytes:Nat} (h:TyE P e sz bytes):∃ i z,P.info? e=some i∧i.zero=some z∧i.size=sz∧i.bytes=bytes∧z.cells.size=sz:=by
 have:=h.info
 cases hi:P.info? e with
 | none=>simp [hi] at this
 | some i =>
  simp only [hi,Option.map_some,Option.some.injEq,Prod.mk.injEq] at this
  obtain⟨h1,h2,h3⟩:=this
  cases hz:i.zero with
  | none=>simp [hz] at h1
  | some z=>exact⟨i,z,rfl,hz,h2,h3,by simpa [hz] using h1⟩
section
variable {d:Nat} {x y i:Operand} {ty:TypeId} {pos:String} {af:Array Edge} {nt nt':List (Nat×V)}
theorem A22 (w:World) (t ty e:TypeId) (i:TypeInfo) (ht:P.underlying t=some (.slice e)) (hi:P.info? e=some i) (a:Option Addr) (n c:Nat) (hnc:n≤c) (b:Option Addr) (c':Nat) :
  (Builtin.append_ #[t,t] ty #[.slice a n c,.slice b 0 c']).run P w = .ok (.slice a n c) w:=by
 cases a<;>cases b<;>simp [Builtin.append_,run_underlying ht,sizeOf,typeInfo,hi,Builtin.lenOf,Builtin.firstCells,hnc,storeCells,loadCells,loadCellsFrom]
theorem S0 {ob:Obs} {σ:Nat→Option Nat} {Z:Nat→Prop} {w:World} {nm e sz n:Nat} {v:Value} {xs:List Value} (hl:live ob nm) (h:w.ownsRow 0 e sz v n xs) (hs:σ nm=v.ownBlock) :
  RepT ob σ Z w v (.sref nm sz 0 n):=by
 rcases h.2 with ⟨rfl,h0⟩ | ⟨g,cap,cur,rfl,_,hh,hn,hcap,hcs,_⟩
 ·subst h0
  exact⟨⟨hl.used,fun _=>⟨none,0,rfl,Nat.le_refl _,by omega,.inl ⟨hs,rfl,rfl,rfl⟩⟩⟩,.inr rfl⟩
 ·refine⟨⟨hl.used,fun _=>⟨some ⟨g,0,none⟩,cap,rfl,hn,by simpa [maxLen] using hcap,.inr ⟨g,e,hs,.inr (by simp),?_,fun _=>rfl⟩⟩⟩,.inr rfl⟩
  simp [World.shape?,hh,hcs]
theorem B0t {ob:Obs} {σ:Nat→Option Nat} {Z:Nat→Prop} {w:World} {nm e sz:Nat} {v:Value} {es:List D} (h:RepT ob σ Z w v (.sref nm sz 0 es.length)) (hl:live ob nm) (ho:(Ob.row e sz es).rep ob σ Z w nm) :
  ∃ xs,w.ownsRow 0 e sz v es.length xs∧D.repL Z w es xs∧v.ownBlock=σ nm:=by
 obtain⟨a,c,hv,h1,h2,h3⟩:=A4p h hl
 obtain⟨h0,h00,v',xs,g1,g2,g3,g4⟩:=ho
 rcases h3 with ⟨k1,k2,_,k4⟩ | ⟨b,e',k1,k2,k3,k4⟩
 ·have:=g4 k1
  subst this
  cases g2
  refine⟨[],?_,rfl,by rw [hv,k2,k1];rfl⟩
  rw [hv,k2,k4]
  exact World.ownsRow_nil w 0 e sz
 ·have k4':=k4 rfl
  obtain⟨cur,cap,xs',m1,m2,m3,m4,m5,m6,m7⟩:=Ob.row_cells (ob:=ob) (σ:=σ) (Z:=Z) (w:=w) (n:=nm) (e:=e) (sz:=sz) (es:=es) ⟨h0,h00,v',xs,g1,g2,g3,g4⟩ k1
  have hc:cap=c:=by
   simp [World.shape?,m1] at k3
   have:=k3.2
   rw [m2] at this
   exact Nat.eq_of_mul_eq_mul_right h0 this
  subst hc
  refine⟨xs',⟨m6,.inr ⟨b,cap,cur,by rw [hv,k4'],Nat.zero_le _,m1,m3,by simpa [maxLen] using m4,m2,m7⟩⟩,m5,by rw [hv,k4',k1];rfl⟩
theorem OpJ.append {t e sz bytes:Nat} (hB:B.ok) (hu:P.underlying t=some (.slice e)) (he:TyE P e sz bytes) {n nm:Nat} (hnm:1000≤nm) {es ys es':List D} {len:Nat} (hes:es'=es++ys) (hlen:len=es'.length)
  (hys:∀ y∈ys,y.sz=sz) (hb:es'.length*bytes≤140737488355328) (hb63:es'.length≤9223372036854775807) (hN:d<B.N) {l0:Nat} (hl0:l0=es.length) (hx:Opd x (.sref n sz 0 l0) nt) (hy:Opd y (.d (.list sz ys)) nt') :
  OpJ P B ops ⟨some d,.call { callee:=.builtin .append,args:=#[x,y],argTypes:=#[t,t] },ty,pos,af,none⟩
   { nt:=nt++nt',no:=[(n,.row e sz es)],nf:=[nm],wt:=[(d,.sref nm sz 0 len)],wo:=[(nm,some (.row e sz es')),(n,none)] } :=
 OpJ.run rfl rfl hN rfl fun env ob a w σ Z sm hne=>by
  subst hl0
  obtain⟨h1,h2⟩:=E7 hne.1
  have hob:=hne.2.1 (n,.row e sz es) (by simp)
  have hl:live ob n:=⟨_,hob⟩
  have hfr:ob nm=none:=hne.2.2 nm (by simp)
  have hnn:nm≠n:=fun h=>by subst h;exact hl.used hfr
  have hro:=sm.obj n _ hob
  obtain⟨xs,hown,hrep,hblk⟩:=B0t (hx B env ob a w σ Z sm h1) hl hro
  obtain⟨ad,c,hyv,hc1,hc2,hyd⟩:=A3r (hy B env ob a w σ Z sm h2)
  obtain⟨ti,z,hi,hz,hs,hby,hzs⟩:=he.get
  have hlen':es'.length=es.length+ys.length:=by rw [hes,List.length_append]
  -- the run
  have hrun:∃ v' w' news,(Builtin.append_ #[t,t] ty #[a.eval x,a.eval y]).run P w = .ok v' w'∧w'.ownsRow 0 e sz v' (es.length+ys.length) (xs++news)∧w.grownBy w' (a.eval x).ownBlock ∧
    (v'.ownBlock=(a.eval x).ownBlock∨v'.ownBlock=some w.heap.size)∧D.repL Z w ys news:=by
   rcases hyd with hyd | ⟨b,o,ha,hzb,hsz,hre⟩
   ·subst hyd
    refine⟨a.eval x,w,[],?_,by simpa using hown,World.grownBy.refl w _,.inl rfl,rfl⟩
    rw [hyv]
    rcases hown.2 with ⟨hv,_⟩ | ⟨g,cap,cur,hv,_,_,hnc,_⟩
    ·rw [hv];exact A22 w t ty e ti hu hi none 0 0 (Nat.le_refl _) ad c
    ·rw [hv];exact A22 w t ty e ti hu hi _ _ _ hnc ad c
   ·obtain⟨news,g1,g2⟩:=D.repL_of_repE ys b o hre hsz
    have gl:=D.repL_len ys news g1
    rw [D.szL_all ys hsz] at gl
    obtain⟨v',w',k1,k2,k3,_,k5⟩:=run_append_own_at (P:=P) w 0 t ty e ti z sz bytes hu hi hz hs hby hzs he.pos (a.eval x) es.length xs hown ⟨b,o,none⟩ ys.length c news gl
     (fun j u hj=>by rw [A0h];exact g2 j u hj) (D.repL_one ys news g1) (by simp only [maxLen];omega) (by rw [← hlen'];exact hb) (Nat.zero_le _)
    exact⟨v',w',news,by rw [hyv,ha];exact k1,k2,k3,k5,g1⟩
  obtain⟨v',w',news,hr,hown',hgr,hat,hnews⟩:=hrun
  have hall:D.repL Z w es' (xs++news):=by rw [hes];exact D.repL_append es ys xs news hrep hnews
  have sk:=sm.kill n
  have hlv:∀ m,live (updO ob n none) m→m≠n∧live ob m:=fun m hm=>by
   rw [D6] at hm
   by_cases hmn:m=n
   ·rw [if_pos hmn] at hm;simp at hm
   ·rw [if_neg hmn] at hm;exact⟨hmn,hm⟩
  have s2:=sk.rowNew sm (B5i ob n) hB (nm:=nm) (by simp [updO,hnn,hfr]) hnm hgr
   (fun m b hm hb e=>(hlv m hm).1 (sm.inj m n b (hlv m hm).2 hl hb (by rw [← hblk,← e])))
   (fun b hb=>⟨n,hl,by rw [← hblk,hb]⟩) hat
   (o:=.row e sz es') fun ob' σ' m hσ=>by
    refine⟨he.pos,?_,v',xs++news,by rw [hlen'];exact hown',D.repL_ext m.ext es' _ hall,hσ.symm,fun hn => ?_⟩
    ·intro q hq
     rw [hes] at hq
     rcases List.mem_append.1 hq with hq | hq
     ·exact hro.2.1 q hq
     ·exact hys q hq
    ·rw [hσ] at hn
     rcases hown'.2 with ⟨_,h0⟩ | ⟨g,cap,cur,hv,_⟩
     ·exact List.eq_nil_of_length_eq_zero (by omega)
     ·rw [hv] at hn;simp [Value.ownBlock] at hn
  rw [A4o _ rfl]
  refine⟨v',w',_,Z,?_,s2,?_⟩
  ·simp only [execOp,resolve,invoke,builtin,Sem.run_bind,Sem.run_pure,Result.andThen_ok,List.map_toArray,List.map_cons,List.map_nil,hr]
  ·rw [hlen,hlen']
   exact S0 (e:=e) (xs:=xs++news) (by rw [D6];simp) hown' (by simp [updS])
theorem OpJ.appendN {t e sz bytes:Nat} (hB:B.ok) (hu:P.underlying t=some (.slice e)) (he:TyE P e sz bytes) {nm:Nat} (hnm:1000≤nm) {ys:List D} {len:Nat} (hlen:len=ys.length)
  (hys:∀ y∈ys,y.sz=sz) (hb:ys.length*bytes≤140737488355328) (hb63:ys.length≤9223372036854775807) (hN:d<B.N) (hx:Opd x .nils nt) (hy:Opd y (.d (.list sz ys)) nt') :
  OpJ P B ops ⟨some d,.call { callee:=.builtin .append,args:=#[x,y],argTypes:=#[t,t] },ty,pos,af,none⟩
   { nt:=nt++nt',nf:=[nm],wt:=[(d,.sref nm sz 0 len)],wo:=[(nm,some (.row e sz ys))] } :=
 OpJ.run rfl rfl hN rfl fun env ob a w σ Z sm hne=>by
  obtain⟨h1,h2⟩:=E7 hne.1
  have hfr:ob nm=none:=hne.2.2 nm (by simp)
  have hxv:=B0n (hx B env ob a w σ Z sm h1)
  obtain⟨ad,c,hyv,hc1,hc2,hyd⟩:=A3r (hy B env ob a w σ Z sm h2)
  obtain⟨ti,z,hi,hz,hs,hby,hzs⟩:=he.get
  have hown:=World.ownsRow_nil w 0 e sz
  have hrun:∃ v' w' news,(Builtin.append_ #[t,t] ty #[.slice none 0 0,a.eval y]).run P w = .ok v' w'∧w'.ownsRow 0 e sz v' ys.length news∧w.grownBy w' none ∧
    (v'.ownBlock=none∨v'.ownBlock=some w.heap.size)∧D.repL Z w ys news:=by
   rcases hyd with hyd | ⟨b,o,ha,hzb,hsz,hre⟩
   ·subst hyd
    refine⟨.slice none 0 0,w,[],?_,hown,World.grownBy.refl w _,.inl rfl,rfl⟩
    rw [hyv]
    exact A22 w t ty e ti hu hi none 0 0 (Nat.le_refl _) ad c
   ·obtain⟨news,g1,g2⟩:=D.repL_of_repE ys b o hre hsz
    have gl:=D.repL_len ys news g1
    rw [D.szL_all ys hsz] at gl
    obtain⟨v',w',k1,k2,k3,_,k5⟩:=run_append_own_at (P:=P) w 0 t ty e ti z sz bytes hu hi hz hs hby hzs he.pos (.slice none 0 0) 0 [] hown ⟨b,o,none⟩ ys.length c news gl
     (fun j u hj=>by rw [A0h];exact g2 j u hj) (D.repL_one ys news g1) (by simp only [maxLen];omega) (by simpa using hb) (Nat.zero_le _)
    exact⟨v',w',news,by rw [hyv,ha];exact k1,by simpa using k2,k3,k5,g1⟩
  obtain⟨v',w',news,hr,hown',hgr,hat,hnews⟩:=hrun
  have s2:=sm.rowNew0 hB (nm:=nm) hfr hnm hgr hat
   (o:=.row e sz ys) fun ob' σ' m hσ=>by
    refine⟨he.pos,hys,v',news,hown',D.repL_ext m.ext ys _ hnews,hσ.symm,fun hn => ?_⟩
    rw [hσ] at hn
    rcases hown'.2 with ⟨_,h0⟩ | ⟨g,cap,cur,hv,_⟩
    ·exact List.eq_nil_of_length_eq_zero (by omega)
    ·rw [hv] at hn;simp [Value.ownBlock] at hn
  rw [N4 _ rfl]
  refine⟨v',w',_,Z,?_,s2,?_⟩
  ·simp only [execOp,resolve,invoke,builtin,Sem.run_bind,Sem.run_pure,Result.andThen_ok,List.map_toArray,List.map_cons,List.map_nil,hxv,hr]
  ·rw [hlen]
   exact S0 (e:=e) (xs:=news) (by rw [D6];simp) hown' (by simp [updS])
theorem B05 (z:List Value) (hz:0<z.length) (n:Nat):madeCells z.toArray (n*z.length)=(List.replicate n z).flatten.toArray:=by
 apply Array.toList_inj.1
 have:=R0 z hz n
 rw [← this]
 simp [madeCells]
theorem OpJ.make {t e sz bytes:Nat} {z:D} (hB:B.ok) (hu:P.underlying t=some (.slice e)) (he:TyE P e sz bytes) (hz:TyZ P e (.d z)) (hzs:z.sz=sz) {nm:Nat} (hnm:1000≤nm) {k k':IntKind} {l c:Int} (h0:0≤l) (hlc:l≤c) (hb:(bytes:Int)*c≤281474976710656) (hb63:c≤9223372036854775807) (hN:d<B.N)
  {es:List D} (hes:es=List.replicate l.toNat z) {len:Nat} (hlen:len=es.length) (hx:Opd x (.d (.int k l)) nt) (hy:Opd y (.d (.int k' c)) nt') :
  OpJ P B ops ⟨some d,.makeSlice t x y,ty,pos,af,none⟩ { nt:=nt++nt',nf:=[nm],wt:=[(d,.sref nm sz 0 len)],wo:=[(nm,some (.row e sz es))] } :=
 OpJ.run rfl rfl hN rfl fun env ob a w σ Z sm hne=>by
  obtain⟨h1,h2⟩:=E7 hne.1
  have hfr:ob nm=none:=hne.2.2 nm (by simp)
  have hxv:=K9 (hx B env ob a w σ Z sm h1)
  have hyv:=K9 (hy B env ob a w σ Z sm h2)
  obtain⟨ti,zv,hi,hz',hs,hby,hzs'⟩:=he.get
  have hzc:zv.cells.toList=z.enc:=by
   have h3:=hz.run w
   simp only [zeroValue,typeInfo,Sem.run_bind] at h3
   have h4:=hz.cells
   simp [hi,hz'] at h3
   rw [h3];exact h4
  have hzl:z.enc.length=sz:=by
   have:=D.rep_len (Z:=Z) (w:=w) z _ (D.rep_enc z hz.plain)
   rw [this,hzs]
  have hpos:=he.pos
  have hcells:zv.cells=z.enc.toArray:=by rw [← hzc]
  have hr:=run_make (P:=P) w t e ti zv hu hi hz' k k' l c h0 hlc (by rw [hby];exact hb) hb63
  have hmc:madeCells zv.cells (c.toNat*ti.size)=(List.replicate c.toNat z.enc).flatten.toArray:=by
   rw [hcells,hs,← hzl]
   exact B05 z.enc (by omega) _
  have hrepc:=V5 (Z:=Z) (w:=w) hz.plain c.toNat
  have hcl:=D.repL_len _ _ hrepc
  rw [D.szL_all (sz:=sz) _ (fun q hq=>by rw [List.eq_of_mem_replicate hq,hzs]),List.length_replicate] at hcl
  have hrepl:=V5 (Z:=Z) (w:=w) hz.plain l.toNat
  have hll:=D.repL_len _ _ hrepl
  rw [D.szL_all (sz:=sz) _ (fun q hq=>by rw [List.eq_of_mem_replicate hq,hzs]),List.length_replicate] at hll
  have hsplit:(List.replicate c.toNat z.enc).flatten=(List.replicate l.toNat z.enc).flatten++(List.replicate (c.toNat-l.toNat) z.enc).flatten:=by
   rw [← List.flatten_append,List.replicate_append_replicate,show l.toNat+(c.toNat-l.toNat)=c.toNat from by omega]
  have hel:es.length=l.toNat:=by rw [hes,List.length_replicate]
  have hown:(w.alloc (.cells (madeCells zv.cells (c.toNat*ti.size)) e)).ownsRow 0 e sz (.slice (some ⟨w.heap.size,0,none⟩) l.toNat c.toNat) es.length (List.replicate l.toNat z.enc).flatten:=by
   refine⟨by rw [hll,hel],.inr ⟨w.heap.size,c.toNat,_,by rw [hel],Nat.zero_le _,heap_alloc_new w _,by rw [hel];omega,by simp only [maxLen];omega,?_,?_⟩⟩
   ·rw [hmc,List.size_toArray,hcl]
   ·rw [hmc,hsplit,hel,← hll]
    exact List.take_left
  have s2:=sm.newObj hB hfr hnm (o:=.row e sz es) (c:=.cells (madeCells zv.cells (c.toNat*ti.size)) e) fun ob' σ' m hσ =>
   ⟨he.pos,fun q hq=>by rw [hes] at hq;rw [List.eq_of_mem_replicate hq,hzs],_,_,hown,by rw [hes];exact D.repL_ext m.ext _ _ hrepl,by rw [hσ];rfl,fun hn=>by rw [hσ] at hn;cases hn⟩
  rw [N4 _ rfl]
  refine⟨.slice (some ⟨w.heap.size,0,none⟩) l.toNat c.toNat,w.alloc (.cells (madeCells zv.cells (c.toNat*ti.size)) e),updS σ nm (some w.heap.size),Z,?_,s2,?_⟩
  ·simp only [execOp,hxv,hyv,Sem.run_bind,hr,Result.andThen_ok];rfl
  ·rw [hlen]
   have:=S0 (ob:=updO ob nm (some (.row e sz es))) (σ:=updS σ nm (some w.heap.size)) (Z:=Z) (nm:=nm) (by rw [D6];simp) hown (by simp [updS,Value.ownBlock])
   simpa [hel] using this
theorem B5j (w:World) (t e:TypeId) {sz:Nat} {ag:Bool} (hu:P.underlying t=some (.slice e)) (ht:TyS P e sz ag) (a:Option Addr) (len cap:Nat) (hlc:len≤cap) (lo hi:Option Value) (l h:Nat)
  (hlo:lo=none∧l=0∨∃ k n,lo=some (.int k n)∧0≤n∧l=n.toNat) (hhi:hi=none∧h=len∨∃ k n,hi=some (.int k n)∧0≤n∧h=n.toNat) (h1:l≤h) (h2:h≤cap) :
  (Instr.sliceAt t (.slice a len cap) lo hi none).run P w = .ok (.slice (if cap=l then a else a.map (·.add (l*sz))) (h-l) (cap-l)) w:=by
 have hb:∀ (n:Int) (k:IntKind) (y:Nat) (code:BoundsCode),0≤n→n.toNat≤y→(Instr.sliceBound (.int k n) y code).run P w = .ok n.toNat w:=by
  intro n k y code h0 hy
  have:n≤(y:Int):=by omega
  simp [Instr.sliceBound,asIntOf,h0,this]
 have hsz:=ht.run_size w
 rcases hlo with ⟨rfl,rfl⟩ | ⟨k,n,rfl,hn,rfl⟩
 ·rcases hhi with ⟨rfl,rfl⟩ | ⟨k',n',rfl,hn',rfl⟩
  ·simp [Instr.sliceAt,Instr.slice,run_underlying hu,Instr.sliceBounds,hsz]
  ·have e2:=hb n' k' cap .sliceAcap hn' h2
   simp [Instr.sliceAt,Instr.slice,run_underlying hu,Instr.sliceBounds,hsz,e2]
 ·rcases hhi with ⟨rfl,rfl⟩ | ⟨k',n',rfl,hn',rfl⟩
  ·have e1:=hb n k h .sliceB hn h1
   simp [Instr.sliceAt,Instr.slice,run_underlying hu,Instr.sliceBounds,hsz,e1]
  ·have e1:=hb n k n'.toNat .sliceB hn h1
   have e2:=hb n' k' cap .sliceAcap hn' h2
   simp [Instr.sliceAt,Instr.slice,run_underlying hu,Instr.sliceBounds,hsz,e1,e2]
theorem OpJ.cutD {t e:TypeId} {sz:Nat} {ag:Bool} (hu:P.underlying t=some (.slice e)) (ht:TyS P e sz ag) {es es':List D} {lo hi:Option Operand} {l h:Nat} {nl nh:List (Nat×V)}
  (hlo:(lo=none∧l=0∧nl=[])∨∃ o k n,lo=some o∧Opd o (.d (.int k n)) nl∧0≤n∧l=n.toNat) (hhi:(hi=none∧h=es.length∧nh=[])∨∃ o k n,hi=some o∧Opd o (.d (.int k n)) nh∧0≤n∧h=n.toNat)
  (h1:l≤h) (h2:h≤es.length) (hes:es'=(es.take h).drop l) (hN:d<B.N) (hx:Opd x (.d (.list sz es)) nt) :
  OpJ P B ops ⟨some d,.slice t x lo hi none,ty,pos,af,none⟩ { nt:=nt++(nl++nh),wt:=[(d,.d (.list sz es'))] } :=
 OpJ.pure rfl rfl hN fun env ob a w σ Z sm hne=>by
  obtain⟨g1,g23⟩:=E7 hne
  obtain⟨g2,g3⟩:=E7 g23
  obtain⟨ad,c,hv,hc1,hc2,hd⟩:=A3r (hx B env ob a w σ Z sm g1)
  have hr:=B5j (P:=P) w t e hu ht ad es.length c hc1 (lo.map a.eval) (hi.map a.eval) l h
   (by
    rcases hlo with ⟨rfl,h0,_⟩ | ⟨o,k,n,rfl,ho,hn,hl⟩
    ·exact .inl ⟨rfl,h0⟩
    ·exact .inr ⟨k,n,by simp [K9 (ho B env ob a w σ Z sm g2)],hn,hl⟩)
   (by
    rcases hhi with ⟨rfl,h0,_⟩ | ⟨o,k,n,rfl,ho,hn,hl⟩
    ·exact .inl ⟨rfl,h0⟩
    ·exact .inr ⟨k,n,by simp [K9 (ho B env ob a w σ Z sm g3)],hn,hl⟩)
   h1 (by omega)
  have hel:es'.length=h-l:=by rw [hes,List.length_drop,List.length_take,Nat.min_eq_left h2]
  refine⟨.slice (if c=l then ad else ad.map (·.add (l*sz))) (h-l) (c-l),by simp only [execOp,hv,Sem.run_bind,Option.map_none,hr,Result.andThen_ok];rfl,?_⟩
  refine⟨⟨_,_,by rw [hel],by rw [hel];omega,by omega,?_⟩,.inr rfl⟩
  by_cases hnil:es'=[]
  ·exact .inl hnil
  ·right
   have hpos:0<es'.length:=List.length_pos_iff.2 hnil
   rcases hd with hd | ⟨b,o,ha,hz,hs,hre⟩
   ·subst hd;simp at hes;exact absurd hes hnil
   ·refine⟨b,o+l*sz,?_,hz,fun q hq=>hs q ?_,?_⟩
    ·rw [if_neg (by omega),ha];simp [A0h]
    ·rw [hes] at hq;exact List.mem_of_mem_take (List.mem_of_mem_drop hq)
    ·rw [hes];exact D.repE_drop _ b o l (D.repE_take es b o h hre)
theorem OpJ.makeFunc {f:FuncId} {caps:List Operand} {vs:List V} {nts:List (Nat×V)} (hc:∀ (B:Base) (env:Env) (ob:Obs) (a:Act) (w:World) (σ:Nat→Option Nat) (Z:Nat→Prop),Sim B env ob a w σ Z→(∀ p∈nts,env p.1=some p.2)→V.repL ob σ Z w vs (caps.map a.eval)) (hN:d<B.N) :
  OpJ P B ops ⟨some d,.makeFunc (.func f) #[] caps.toArray,ty,pos,af,none⟩ { nt:=nts,wt:=[(d,.func f vs)] } :=
 OpJ.pure rfl rfl hN fun env ob a w σ Z sm hne=>by
  refine⟨.func (.func f) #[] (caps.map a.eval).toArray,by simp [execOp,Instr.makeFunc],⟨⟨_,rfl,hc B env ob a w σ Z sm hne⟩,.inr rfl⟩⟩
end
end Go.Vc

/- Rows whose elements own rows (one field of each): begun, carried on, an inner row taken out and put back, settled. -/
import Derived.Test.YtplbaenjbihekaaGreatDoorVcYB
import Derived.Test.YtplbaenjbihekaaGreatDoorVcMD
namespace Go.Vc
open Go
variable {P:Program} {B:Base} {ops:Array Oper}
theorem B24 {ob:Obs} {σ:Nat→Option Nat} {Z:Nat→Prop} {w:World} {nm e sz n:Nat} {v v':Value} {xs:List Value} (h:RepT ob σ Z w v (.sref nm sz 0 n)) (hl:live ob nm) (h0:0<sz) (ho:w.ownsRow 0 e sz v' n xs) (hb:v'.ownBlock=σ nm) :
  w.ownsRow 0 e sz v n xs∧v.ownBlock=σ nm:=by
 obtain⟨a,c,hv,h1,h2,h3⟩:=A4q h hl;obtain⟨g1,g2⟩:=ho;rcases h3 with ⟨k1,k2,_,k4⟩ | ⟨b,e',k1,k2,k3,k4⟩
 ·rcases g2 with ⟨_,g⟩ | ⟨g,cap,cur,m1,_⟩
  ·subst g;have:xs=[]:=List.eq_nil_of_length_eq_zero (by omega);subst this;rw [hv,k2,k4];exact⟨World.ownsRow_nil w 0 e sz,by rw [k1];rfl⟩
  ·rw [m1,k1] at hb;simp [Value.ownBlock] at hb
 ·rcases g2 with ⟨g,_⟩ | ⟨g,cap,cur,m1,m2,m3,m4,m5,m6,m7⟩
  ·rw [g,k1] at hb;simp [Value.ownBlock] at hb
  ·have hgb:g=b:=by rw [m1,k1] at hb;simpa [Value.ownBlock] using hb
   subst hgb;have hc:cap=c:=by
    simp [World.shape?,m3] at k3;have:=k3.2;rw [m6] at this;exact Nat.eq_of_mul_eq_mul_right h0 this
   subst hc;have:v=v':=by rw [hv,k4 rfl,m1]
   subst this;exact⟨⟨g1,.inr ⟨g,cap,cur,m1,m2,m3,m4,m5,m6,m7⟩⟩,hb⟩
def NRs (Z:Nat→Prop) (w:World) (j sz2:Nat):List D→List Value→List Value→Prop
 | [],[],cs=>cs=[]
 | x :: xs,h :: hs,cs=>∃ (pre inner post:List D) (c1 c3 rest:List Value),x = .st (pre ++ .list sz2 inner :: post)∧pre.length=j∧cs=c1++h :: c3++rest∧D.repL Z w pre c1∧D.repL Z w post c3∧h.oneCell'=true∧NRs Z w j sz2 xs hs rest
 | _,_,_=>False
def Inn (Z:Nat→Prop) (w:World) (e2 sz2 j:Nat) (x:D) (h:Value):Prop :=
 ∃ (pre inner post:List D) (ys:List Value),x = .st (pre ++ .list sz2 inner :: post)∧pre.length=j∧w.ownsRow 0 e2 sz2 h inner.length ys∧D.repL Z w inner ys∧∀ y∈inner,y.sz=sz2
theorem NRs.ext {Z Z':Nat→Prop} {w w':World} {j sz2:Nat} (hx:Ext Z Z' w w'):∀ {xs:List D} {hs cs:List Value},NRs Z w j sz2 xs hs cs→NRs Z' w' j sz2 xs hs cs
 | [],[],_,h=>h
 | x :: xs,h :: hs,cs,hh=>by
  obtain⟨pre,inner,post,c1,c3,rest,h1,h2,h3,h4,h5,h6,h7⟩:=hh;exact⟨pre,inner,post,c1,c3,rest,h1,h2,h3,D.repL_ext hx _ _ h4,D.repL_ext hx _ _ h5,h6,h7.ext hx⟩
 | [],_ :: _,_,h=>h.elim
 | _ :: _,[],_,h=>h.elim
theorem NRs.len {Z:Nat→Prop} {w:World} {j sz2:Nat}:∀ {xs:List D} {hs cs:List Value},NRs Z w j sz2 xs hs cs→hs.length=xs.length
 | [],[],_,_=>rfl
 | x :: xs,h :: hs,cs,hh=>by
  obtain⟨_,_,_,_,_,_,_,_,_,_,_,_,h7⟩:=hh;simp [h7.len]
 | [],_ :: _,_,h=>h.elim
 | _ :: _,[],_,h=>h.elim
theorem NRs.append {Z:Nat→Prop} {w:World} {j sz2:Nat} {ys:List D} {hs' cs':List Value} (k:NRs Z w j sz2 ys hs' cs'):∀ {xs:List D} {hs cs:List Value},NRs Z w j sz2 xs hs cs→NRs Z w j sz2 (xs++ys) (hs++hs') (cs++cs')
 | [],[],_,h=>by cases h;simpa using k
 | x :: xs,h :: hs,cs,hh=>by
  obtain⟨pre,inner,post,c1,c3,rest,h1,h2,h3,h4,h5,h6,h7⟩:=hh;exact⟨pre,inner,post,c1,c3,rest++cs',h1,h2,by rw [h3];simp,h4,h5,h6,NRs.append k h7⟩
 | [],_ :: _,_,h=>h.elim
 | _ :: _,[],_,h=>h.elim
theorem NRs.one {Z:Nat→Prop} {w:World} {j sz2:Nat}:∀ {xs:List D} {hs cs:List Value},NRs Z w j sz2 xs hs cs→∀ v∈cs,v.oneCell'=true
 | [],[],_,h=>by cases h;simp
 | x :: xs,h :: hs,cs,hh=>by
  obtain⟨pre,inner,post,c1,c3,rest,h1,h2,h3,h4,h5,h6,h7⟩:=hh;intro v hv;subst h3;simp only [List.mem_append,List.mem_cons] at hv;rcases hv with (hv | hv | hv) | hv
  ·exact D.repL_one _ _ h4 v hv
  ·subst hv;exact h6
  ·exact D.repL_one _ _ h5 v hv
  ·exact h7.one v hv
 | [],_ :: _,_,h=>h.elim
 | _ :: _,[],_,h=>h.elim
theorem B25:∀ (xs ys:List D),D.szL (xs++ys)=D.szL xs+D.szL ys
 | [],ys=>by simp [D.szL]
 | x :: xs,ys=>by simp only [List.cons_append,D.szL,B25 xs ys];omega
theorem B7j {pre pre' post post':List D} {a b:D} (h:D.st (pre++a :: post)=D.st (pre'++b :: post')) (hl:pre.length=pre'.length):pre=pre'∧a=b∧post=post':=by
 have h':pre++a :: post=pre'++b :: post':=by injection h
 obtain⟨h1,h2⟩:=List.append_inj h' hl;cases h2;exact⟨h1,rfl,rfl⟩
theorem NRs.split {Z:Nat→Prop} {w:World} {j sz2 sz:Nat}:∀ {xs:List D} {hs cs:List Value} {k:Nat} {pre inner post:List D},NRs Z w j sz2 xs hs cs→(∀ x∈xs,x.sz=sz)→xs[k]? = some (.st (pre ++ .list sz2 inner :: post))→pre.length=j →
  ∃ (A c1:List Value) (h:Value) (c3 C:List Value),cs=A++c1++h :: (c3++C)∧hs[k]? = some h∧h.oneCell'=true∧A.length=k*sz∧c1.length=D.szL pre ∧
   ∀ (inner':List D) (h':Value),h'.oneCell'=true→NRs Z w j sz2 (xs.set k (.st (pre ++ .list sz2 inner' :: post))) (hs.set k h') (A++c1++h' :: (c3++C))
 | [],_,_,_,_,_,_,_,_,hk,_=>by simp at hk
 | x :: xs,[],_,_,_,_,_,h,_,_,_=>h.elim
 | x :: xs,h :: hs,cs,k,pre,inner,post,hh,hsz,hk,hj=>by
  obtain⟨pre0,inner0,post0,c1,c3,rest,h1,h2,h3,h4,h5,h6,h7⟩:=hh;cases k with
  | zero =>
   simp only [List.getElem?_cons_zero,Option.some.injEq] at hk;obtain⟨rfl,_,rfl⟩:=B7j (h1.symm.trans hk) (h2.trans hj.symm);refine⟨[],c1,h,c3,rest,by rw [h3];simp,rfl,h6,by simp,D.repL_len _ _ h4,fun inner' h' ho=>⟨_,inner',_,c1,c3,rest,rfl,hj,by simp,h4,h5,ho,h7⟩⟩
  | succ k =>
   obtain⟨A,d1,g,d3,C,e1,e2,e3,e4,e5,e6⟩:=NRs.split (k:=k) h7 (fun y hy=>hsz y (List.mem_cons_of_mem _ hy)) (by simpa using hk) hj;have hxl:(c1++h :: c3).length=sz:=by
    have:=hsz x (List.mem_cons_self ..);rw [h1] at this;simp only [D.sz,B25,D.szL] at this;have l1:=D.repL_len _ _ h4;have l3:=D.repL_len _ _ h5;simp only [List.length_append,List.length_cons];omega
   refine⟨c1++h :: c3++A,d1,g,d3,C,by rw [h3,e1];simp,by simpa using e2,e3,?_,e5,fun inner' h' ho=>⟨pre0,inner0,post0,c1,c3,_,h1,h2,?_,h4,h5,h6,e6 inner' h' ho⟩⟩
   ·rw [List.length_append,hxl,e4,Nat.succ_mul];omega
   ·simp
theorem Inn.data {Z Z':Nat→Prop} {w:World} {e2 sz2 j:Nat} {pre inner post:List D} {h:Value} (hi:Inn Z w e2 sz2 j (.st (pre ++ .list sz2 inner :: post)) h) (hj:pre.length=j) (hx:Ext Z Z' w w) (hz:∀ b,h.ownBlock=some b→Z' b):D.rep Z' w (.list sz2 inner) [h]:=by
 obtain⟨pre0,inner0,post0,ys,h1,h2,h3,h4,h5⟩:=hi;obtain⟨_,e,_⟩:=B7j h1 (hj.trans h2.symm);cases e;obtain⟨g1,g2⟩:=h3;rcases g2 with ⟨rfl,g⟩ | ⟨g,cap,cur,rfl,_,k3,k4,k5,k6,k7⟩
 ·have:inner=[]:=List.eq_nil_of_length_eq_zero g;subst this;exact⟨none,0,rfl,Nat.le_refl _,by omega,.inl rfl⟩
 ·refine⟨_,cap,rfl,k4,by simpa [maxLen] using k5,.inr ⟨g,0,rfl,hz g rfl,h5,?_⟩⟩;refine D.repE_of_repL inner g 0 ys (D.repL_ext hx inner ys h4) h5 fun q u hq => ?_;rw [Nat.zero_add,cell_of_row w g q cur e2 (0,0) k3];rw [← k7,List.getElem?_take] at hq;split at hq
  ·simpa using hq
  ·cases hq
theorem NRs.toL {Z Z':Nat→Prop} {w:World} {e2 sz2 j:Nat} (hx:Ext Z Z' w w):∀ {xs:List D} {hs cs:List Value},NRs Z w j sz2 xs hs cs →
  (∀ (i:Nat) (x:D) (h:Value),xs[i]? = some x→hs[i]? = some h→Inn Z w e2 sz2 j x h∧∀ b,h.ownBlock=some b→Z' b)→D.repL Z' w xs cs
 | [],[],_,h,_=>h
 | x :: xs,h :: hs,cs,hh,hi=>by
  obtain⟨pre,inner,post,c1,c3,rest,h1,h2,h3,h4,h5,h6,h7⟩:=hh;obtain⟨g1,g2⟩:=hi 0 x h rfl rfl;subst h1;refine⟨c1++h :: c3,rest,by rw [h3],?_,h7.toL hx fun i x' h' a b=>hi (i+1) x' h' (by simpa using a) (by simpa using b)⟩;exact D.repL_append pre (.list sz2 inner :: post) c1 (h :: c3) (D.repL_ext hx _ _ h4) ⟨[h],c3,rfl,g1.data h2 hx g2,D.repL_ext hx _ _ h5⟩
 | [],_ :: _,_,h,_=>h.elim
 | _ :: _,[],_,h,_=>h.elim
def nrow (e sz j e2 sz2:Nat) (es:List D) (hole:Option Nat):Reg where
 holds Z w Y main:=0<sz∧0<sz2∧(∀ x∈es,x.sz=sz)∧∃ (v:Value) (xs hs:List Value),w.ownsRow 0 e sz v es.length xs∧v.ownBlock=main∧(main=none→es=[])∧NRs Z w j sz2 es hs xs ∧
  (∀ (i:Nat) (x:D) (h:Value),es[i]? = some x→hs[i]? = some h→hole≠some i→Inn Z w e2 sz2 j x h∧∀ b,h.ownBlock=some b→Y b) ∧
  (∀ (i k:Nat) (h h':Value) (b:Nat),hs[i]? = some h→hs[k]? = some h'→hole≠some i→hole≠some k→h.ownBlock=some b→h'.ownBlock=some b→i=k)
 move hx hy hm h:=by
  obtain⟨h0,h1,h2,v,xs,hs,h3,h4,h5,h6,h7,h8⟩:=h;refine⟨h0,h1,h2,v,xs,hs,?_,h4,h5,h6.ext hx,fun i x h a b c => ?_,h8⟩
  ·obtain⟨g1,g2⟩:=h3;refine⟨g1,?_⟩;rcases g2 with g2 | ⟨g,cap,cur,k1,k2,k3,k4⟩
   ·exact .inl g2
   ·exact .inr ⟨g,cap,cur,k1,k2,(hm g (by rw [← h4,k1];rfl)).trans k3,k4⟩
  ·obtain⟨⟨pre,inner,post,ys,i1,i2,⟨g1,g2⟩,i4,i5⟩,g⟩:=h7 i x h a b c;refine⟨⟨pre,inner,post,ys,i1,i2,⟨g1,?_⟩,D.repL_ext hx _ _ i4,i5⟩,g⟩;rcases g2 with g2 | ⟨q,cap,cur,k1,k2,k3,k4⟩
   ·exact .inl g2
   ·exact .inr ⟨q,cap,cur,k1,k2,(hy q (g q (by rw [k1];rfl))).trans k3,k4⟩
theorem N0 {ob:Obs} {n:Nat} {x:Option Ob} {m:Nat} (h:isReg (updO ob n x) m):(m=n∧∃ r,x=some (.reg r))∨(m≠n∧isReg ob m):=by
 obtain⟨r,h⟩:=h;unfold updO at h
 by_cases e:m=n
 ·rw [if_pos e] at h;exact .inl ⟨e,r,by simpa using h⟩
 ·rw [if_neg e] at h;exact .inr ⟨e,r,h⟩
theorem isReg.live {ob:Obs} {n:Nat} (h:isReg ob n):live ob n:=by obtain⟨r,h⟩:=h;exact⟨_,h⟩
theorem Sim.reReg {env:Env} {ob:Obs} {a:Act} {w:World} {σ:Nat→Option Nat} {Z:Nat→Prop} (s:Sim B env ob a w σ Z) {n:Nat} {o:Ob} {r:Reg} (hn:ob n=some (some o)) (hF:Foot B.w0.heap.size B.own (updO ob n (some (.reg r))) σ Z w) :
  Sim B env (updO ob n (some (.reg r))) a w σ Z:=by
 have hl:∀ m,live (updO ob n (some (.reg r))) m→live ob m:=fun m ⟨o,h⟩=>by
  by_cases hm:m=n
  ·subst hm;exact⟨_,hn⟩
  ·exact⟨o,by simpa [updO,hm] using h⟩
 have m:Move ob (updO ob n (some (.reg r))) σ σ Z Z w w:=⟨Ext.refl _ _,fun m h=>by
   by_cases hm:m=n
   ·subst hm;simp [used,updO]
   ·simpa [used,updO,hm] using h,fun m _ h=>⟨hl m h,rfl⟩,fun _ _ _ _ _=>rfl⟩
 refine { s with env:=?_,obj:=?_,inj:=fun i j b hi hj=>s.inj i j b (hl i hi) (hl j hj),blk:=fun i b hi=>s.blk i b (hl i hi),pin:=fun i b hp hi=>s.pin i b hp (hl i hi),shp:=fun i b hp hi=>s.shp i b hp (hl i hi),foot:=hF }
 ·intro t x ht;obtain⟨v,h1,h2⟩:=s.env t x ht;exact⟨v,h1,h2.move m⟩
 ·intro i o' hi
  by_cases hin:i=n
  ·subst hin;have ho:o' = .reg r:=by simpa [updO] using hi.symm
   subst ho;exact fun b hb=>s.lt ⟨_,hn⟩ hb
  ·exact Ob.rep_move m (s.obj i o' (by simpa [updO,hin] using hi)) rfl (fun _ _=>rfl)
section
variable {d:Nat} {x y i:Operand} {ty:TypeId} {pos:String} {af:Array Edge} {nt nt':List (Nat×V)}
theorem OpJ.takeG {t:TypeId} (hB:B.ok) {nm m off k o j e sz e2 sz2 len:Nat} {es pre inner post:List D} (ht:TyS P t 1 false) (hm:1000≤m) (hel:es[k]? = some (.st (pre ++ .list sz2 inner :: post))) (hj:pre.length=j) (ho:D.szL pre=o) (hoff:off=k*sz+o) (hlen:len=inner.length)
  (hN:d<B.N) (hx:Opd x (.ptr nm off [k,j]) nt) :
  OpJ P B ops ⟨some d,.load t x,ty,pos,af,none⟩ { nt,no:=[(nm,.reg (nrow e sz j e2 sz2 es none))],nf:=[m],wt:=[(d,.sref m sz2 0 len)],wo:=[(m,some (.row e2 sz2 inner)),(nm,some (.reg (nrow e sz j e2 sz2 es (some k))))] } :=
 OpJ.run rfl rfl hN rfl fun env ob a w σ Z sm hne=>by
  have hob:=hne.2.1 (nm,.reg (nrow e sz j e2 sz2 es none)) (by simp);have hfr:ob m=none:=hne.2.2 m (by simp);have hl:live ob nm:=⟨_,hob⟩;have hmn:m≠nm:=fun h=>by subst h;exact hl.used hfr
  obtain⟨b,hb,hv⟩:=A4k (hx B env ob a w σ Z sm hne.1) hl;obtain⟨Y,F1,F2⟩:=sm.foot;obtain⟨h0,h1,h2,v,xs,hs,h3,h4,h5,h6,h7,h8⟩:=F1 nm _ hob;obtain⟨A,c1,h,c3,C,e1,e3,e4,e5,e6,e7⟩:=h6.split h2 hel hj;obtain⟨hI,hY⟩:=h7 k _ h hel e3 (by simp);obtain⟨pre0,inner0,post0,ys,i1,i2,i3,i4,i5⟩:=hI;obtain⟨_,ei,_⟩:=B7j i1 (hj.trans i2.symm);have ei':inner=inner0:=by injection ei
  subst ei'
  -- the cell
  obtain⟨g1,g2⟩:=h3;obtain⟨cap,cur,k1,k3,k7⟩:∃ cap cur,v = .slice (some ⟨b,0,none⟩) es.length cap∧w.heap[b]? = some (.cells cur e (0,0))∧cur.toList.take (es.length*sz)=xs:=by
   rcases g2 with ⟨g,_⟩ | ⟨g,cap,cur,k1,_,k3,_,_,_,k7⟩
   ·rw [g,hb] at h4;simp [Value.ownBlock] at h4
   ·have:g=b:=by rw [k1,hb] at h4;simpa [Value.ownBlock] using h4
    subst this;exact⟨cap,cur,k1,k3,k7⟩
  have hc:cellsAt w b off [h]:=fun q u hq=>by
   cases q with
   | succ q=>simp at hq
   | zero =>
    simp only [List.getElem?_cons_zero,Option.some.injEq] at hq;subst hq;rw [Nat.add_zero,cell_of_row w b off cur e (0,0) k3];have hx:xs[off]? = some h:=by
     rw [e1,List.getElem?_append_right (by simp;omega),show off-(A++c1).length=0 from by simp;omega];rfl
    rw [← k7,List.getElem?_take] at hx;split at hx
    ·simpa using hx
    ·cases hx
  have hrun:(execOp a.eval ⟨some d,.load t x,ty,pos,af,none⟩).run P w = .ok (.value h) w:=by
   simp only [execOp,hv,Instr.loadAt,Instr.sureAddr,Sem.run_bind,Sem.run_pure,Result.andThen_ok,T4 ht hc rfl (fun _=>rfl)];rfl
  -- who owns what
  let Y1:Nat→Nat→Prop:=fun q b=>if q=nm then Y nm b∧h.ownBlock≠some b else Y q b
  have hY1:∀ q b,Y1 q b→Y q b:=fun q b hq=>by
   simp only [Y1] at hq;split at hq
   ·rename_i e;rw [e];exact hq.1
   ·exact hq
  have hrep1:(nrow e sz j e2 sz2 es (some k)).holds Z w (Y1 nm) (σ nm):=by
   refine⟨h0,h1,h2,v,xs,hs,⟨g1,g2⟩,h4,h5,h6,fun i x' h' a1 a2 a3 => ?_,fun i i' q q' b' a1 a2 a3 a4=>h8 i i' q q' b' a1 a2 (by simp) (by simp)⟩;obtain⟨k5,k6⟩:=h7 i x' h' a1 a2 (by simp);refine⟨k5,fun b' hb' => ?_⟩;simp only [Y1,if_pos];exact⟨k6 b' hb',fun e=>a3 (by rw [h8 k i h h' b' e3 a2 (by simp) (by simp) e hb'])⟩
  have F':Foot B.w0.heap.size B.own (updO ob nm (some (.reg (nrow e sz j e2 sz2 es (some k))))) σ Z w:=by
   have hlv:∀ q,live (updO ob nm (some (.reg (nrow e sz j e2 sz2 es (some k))))) q→live ob q:=fun q hq=>by
    rw [F0] at hq
    by_cases e:q=nm
    ·rw [e];exact hl
    ·rwa [if_neg e] at hq
   have hrg:∀ q,isReg (updO ob nm (some (.reg (nrow e sz j e2 sz2 es (some k))))) q→isReg ob q:=fun q hq=>by
    rcases N0 hq with ⟨e,_⟩ | ⟨_,h⟩
    ·rw [e];exact⟨_,hob⟩
    ·exact h
   refine⟨Y1,fun q r hq => ?_,fun q b' hq hy => ?_⟩
   ·unfold updO at hq
    by_cases e:q=nm
    ·rw [if_pos e] at hq;simp only [Option.some.injEq,Ob.reg.injEq] at hq;subst hq;rw [e];exact hrep1
    ·rw [if_neg e] at hq;have:=F1 q r hq;simp only [Y1,if_neg e];exact this
   ·obtain⟨f1,f2,f3,f4,f5⟩:=F2 q b' (hrg q hq) (hY1 q b' hy);exact⟨f1,f2,f3,fun p hp=>f4 p (hlv p hp),fun p hp hpy=>f5 p (hrg p hp) (hY1 p b' hpy)⟩
  have s1:=sm.reReg hob F';have hl1:∀ q,live (updO ob nm (some (.reg (nrow e sz j e2 sz2 es (some k))))) q→live ob q:=fun q hq=>by
   rw [F0] at hq
   by_cases e:q=nm
   ·rw [e];exact hl
   ·rwa [if_neg e] at hq
  have hfree:∀ q b',live ob q→σ q=some b'→some b'≠h.ownBlock:=fun q b' hq hb' e=>(F2 nm b' ⟨_,hob⟩ (hY b' e.symm)).2.2.2.1 q hq hb';have hne2:∀ q,live ob q→q≠m:=fun q hq e=>hq.used (e ▸ hfr);have F2':Foot B.w0.heap.size B.own (updO (updO ob nm (some (.reg (nrow e sz j e2 sz2 es (some k))))) m (some (.row e2 sz2 inner))) (updS σ m h.ownBlock) Z w:=by
   obtain⟨Y0,_⟩:=F';have hrg:∀ q,isReg (updO (updO ob nm (some (.reg (nrow e sz j e2 sz2 es (some k))))) m (some (.row e2 sz2 inner))) q→q≠m∧isReg ob q:=fun q hq=>by
    rcases N0 hq with ⟨_,r,h⟩ | ⟨g,h⟩
    ·cases h
    ·rcases N0 h with ⟨e,_⟩ | ⟨_,h⟩
     ·exact⟨g,by rw [e];exact⟨_,hob⟩⟩
     ·exact⟨g,h⟩
   refine⟨Y1,fun q r hq => ?_,fun q b' hq hy => ?_⟩
   ·have hqm:=(hrg q ⟨r,hq⟩).1;rw [show updS σ m h.ownBlock q=σ q from by simp [updS,hqm]];unfold updO at hq;rw [if_neg hqm] at hq
    by_cases e:q=nm
    ·rw [if_pos e] at hq;simp only [Option.some.injEq,Ob.reg.injEq] at hq;subst hq;rw [e];exact hrep1
    ·rw [if_neg e] at hq;have:=F1 q r hq;simp only [Y1,if_neg e];exact this
   ·obtain⟨f1,f2,f3,f4,f5⟩:=F2 q b' (hrg q hq).2 (hY1 q b' hy);refine⟨f1,f2,f3,fun p hp hpb => ?_,fun p hp hpy=>f5 p (hrg p hp).2 (hY1 p b' hpy)⟩;rw [F0] at hp
    by_cases e:p=m
    ·simp only [updS,if_pos e] at hpb;have hq:q=nm:=((F2 nm b' ⟨_,hob⟩ (hY b' hpb)).2.2.2.2 q (hrg q hq).2 (hY1 q b' hy));simp only [Y1,if_pos hq] at hy;exact hy.2 hpb
    ·rw [if_neg e] at hp;simp only [updS,if_neg e] at hpb;exact f4 p (hl1 p hp) hpb
  have s2:=s1.rowNewF hB (nm:=m) (by simp [updO,hmn,hfr]) hm (w1:=w) (g:=h.ownBlock) (g':=h.ownBlock) (World.grownBy.refl w _) (fun q b' hq hb'=>hfree q b' (hl1 q hq) hb')
   (fun b' hb'=>by
    obtain⟨f1,f2,f3,_⟩:=F2 nm b' ⟨_,hob⟩ (hY b' hb');exact⟨f1,f3⟩) (.inl rfl) (o:=.row e2 sz2 inner) (fun ob' σ' mv hσ=>⟨h1,i5,h,ys,i3,i4,hσ.symm,fun hn=>by
    rw [hσ] at hn;rcases i3.2 with ⟨_,h00⟩ | ⟨q,cap,cur,hv',_⟩
    ·exact List.eq_nil_of_length_eq_zero h00
    ·rw [hv'] at hn;simp [Value.ownBlock] at hn⟩) F2'
  rw [A88 _ rfl];refine⟨h,w,_,Z,hrun,s2,?_⟩;rw [hlen];exact V4 (e:=e2) (xs:=ys) (by rw [F0];simp) i3 (by simp [updS])
theorem OpJ.putG {t:TypeId} {nm m off k o j e sz e2 sz2 len:Nat} {es es' pre inner0 inner post:List D} (ht:TyS P t 1 false) (hel:es[k]? = some (.st (pre ++ .list sz2 inner0 :: post))) (hes:es'=es.set k (.st (pre ++ .list sz2 inner :: post))) (hj:pre.length=j) (ho:D.szL pre=o) (hoff:off=k*sz+o) (hlen:len=inner.length)
  (hx:Opd x (.ptr nm off [k,j]) nt) (hy:Opd y (.sref m sz2 0 len) nt') :
  OpJ P B ops ⟨none,.store t x y,ty,pos,af,none⟩ { nt:=nt++nt',no:=[(nm,.reg (nrow e sz j e2 sz2 es (some k))),(m,.row e2 sz2 inner)],wo:=[(nm,some (.reg (nrow e sz j e2 sz2 es' none))),(m,none)] } :=
 OpJ.run0 rfl rfl rfl fun env ob a w σ Z sm hne=>by
  subst hlen;obtain⟨n1,n2⟩:=F9 hne.1;have hob:=hne.2.1 (nm,.reg (nrow e sz j e2 sz2 es (some k))) (by simp);have hom:=hne.2.1 (m,.row e2 sz2 inner) (by simp);have hl:live ob nm:=⟨_,hob⟩;have hlm:live ob m:=⟨_,hom⟩;have hmn:m≠nm:=fun h=>by subst h;simp only at hob hom;rw [hob] at hom;simp at hom
  obtain⟨b,hb,hv⟩:=A4k (hx B env ob a w σ Z sm n1) hl;obtain⟨Y,F1,F2⟩:=sm.foot;obtain⟨h0,h1,h2,v,xs,hs,h3,h4,h5,h6,h7,h8⟩:=F1 nm _ hob;obtain⟨A,c1,h,c3,C,e1,e3,e4,e5,e6,e7⟩:=h6.split h2 hel hj;obtain⟨_,r2,vm,ys,r3,r4,r5,r6⟩:=sm.obj m _ hom;obtain⟨q1,q2⟩:=B24 (hy B env ob a w σ Z sm n2) hlm h1 r3 r5;generalize hh':a.eval y=h' at q1 q2;have hone:h'.cells.toList=[h']∧h'.oneCell'=true:=by
   rcases q1.2 with ⟨g,_⟩ | ⟨_,_,_,g,_⟩<;>rw [g]<;>exact⟨rfl,rfl⟩
  -- the block
  obtain⟨g1,g2⟩:=h3;obtain⟨cap,cur,k1,k3,k4,k5,k6,k7⟩:∃ cap cur,v = .slice (some ⟨b,0,none⟩) es.length cap∧w.heap[b]? = some (.cells cur e (0,0))∧es.length≤cap∧cap≤maxLen∧cur.size=cap*sz∧cur.toList.take (es.length*sz)=xs:=by
   rcases g2 with ⟨g,_⟩ | ⟨g,cap,cur,k1,_,k3,k4,k5,k6,k7⟩
   ·rw [g,hb] at h4;simp [Value.ownBlock] at h4
   ·have:g=b:=by rw [k1,hb] at h4;simpa [Value.ownBlock] using h4
    subst this;exact⟨cap,cur,k1,k3,k4,k5,k6,k7⟩
  obtain⟨T,hT⟩:∃ T,cur.toList=xs++T:=⟨cur.toList.drop (es.length*sz),by rw [← k7];exact(List.take_append_drop _ _).symm⟩;have hoffl:off=(A++c1).length:=by simp;omega
  have t1:cur.toList.take off=A++c1:=by rw [hT,e1,hoffl,List.append_assoc (A++c1)];exact List.take_left
  have t2:cur.toList.drop (off+1)=c3++C++T:=by
   rw [hT,e1,hoffl,show A++c1++h :: (c3++C)++T=(A++c1++[h])++(c3++C++T) from by simp];refine List.drop_left' ?_;simp;omega
  have hcl:cur.toList.length=cur.size:=Array.length_toList;have hfit:off+1≤cur.size:=by
   rw [← hcl,hT,e1,hoffl];simp;omega
  have hrun:=A56 ht k3 (v:=h') (by rw [← Array.length_toList,hone.1];rfl) hfit (by rw [hone.1];intro u hu;simp at hu;rw [hu];exact hone.2) (o:=off);have hnew:(cur.toList.take off++h'.cells.toList++cur.toList.drop (off+1))=(A++c1++h' :: (c3++C))++T:=by rw [t1,t2,hone.1];simp
  rw [hnew] at hrun;have hsame:((A++c1++h' :: (c3++C))++T).toArray.size=cur.size:=by
   rw [List.size_toArray,← hcl,hT,e1];simp
  have hxs':(A++c1++h' :: (c3++C)).length=es.length*sz:=by rw [← g1,e1];simp
  have hold:∀ q,q≠b→(w.setRow b ((A++c1++h' :: (c3++C))++T).toArray).heap[q]? = w.heap[q]? :=fun q hq=>A7g w b _ q hq;have hself:(w.setRow b ((A++c1++h' :: (c3++C))++T).toArray).heap[b]? = some (.cells ((A++c1++h' :: (c3++C))++T).toArray e (0,0)):=setRow_heap w b cur _ e (0,0) k3;generalize hw':w.setRow b ((A++c1++h' :: (c3++C))++T).toArray=w' at *;have hsz':w'.heap.size=w.heap.size:=by rw [← hw'];simp
  have hE:Ext Z Z w w':=⟨fun _ h=>h,fun q hq=>hold q (fun e=>(sm.blk nm b hl hb).1 (e ▸ hq))⟩;have keepY:∀ q b',isReg ob q→Y q b'→w'.heap[b']? = w.heap[b']? :=fun q b' hq hy'=>hold b' fun e=>(F2 q b' hq hy').2.2.2.1 nm hl (e ▸ hb);have owns:∀ {n:Nat} {u:Value} {zs:List Value},w.ownsRow 0 e2 sz2 u n zs→(∀ b',u.ownBlock=some b'→b'≠b)→w'.ownsRow 0 e2 sz2 u n zs:=fun {n u zs} hu hne'=>by
   obtain⟨u1,u2⟩:=hu;refine⟨u1,?_⟩;rcases u2 with u2 | ⟨q,cap',cur',m1,m2,m3,m4⟩
   ·exact .inl u2
   ·exact .inr ⟨q,cap',cur',m1,m2,(hold q (hne' q (by rw [m1];rfl))).trans m3,m4⟩
  have hmb:∀ b',σ m=some b'→b'≠b:=fun b' hb' e=>hmn (sm.inj m nm b hlm hl (e ▸ hb') hb);have hk:k<es.length:=(List.getElem?_eq_some_iff.1 hel).1;have hlen':es'.length=es.length:=by rw [hes];simp
  let Y1:Nat→Nat→Prop:=fun q b'=>if q=nm then Y nm b'∨σ m=some b' else Y q b'
  have hrep1:(nrow e sz j e2 sz2 es' none).holds Z w' (Y1 nm) (σ nm):=by
   have hhl:=h6.len;refine⟨h0,h1,fun x' hx' => ?_,v,A++c1++h' :: (c3++C),hs.set k h',⟨by rw [hxs',hlen'],.inr ⟨b,cap,_,by rw [hlen',k1],Nat.zero_le _,hself,by rw [hlen'];exact k4,k5,by rw [hsame,k6],?_⟩⟩,h4,(fun hn=>by rw [hb] at hn;cases hn),(by rw [hes];exact(e7 inner h' hone.2).ext hE),fun i x' u a1 a2 _ => ?_,fun i i' u u' b' a1 a2 _ _ a5 a6 => ?_⟩
   ·rw [hes] at hx';rcases List.mem_or_eq_of_mem_set hx' with hx' | hx'
    ·exact h2 x' hx'
    ·rw [hx',← h2 _ (List.mem_of_getElem? hel)];simp only [D.sz,B25,D.szL]
   ·rw [hlen',← hxs'];exact List.take_left
   ·by_cases e:i=k
    ·subst e;rw [hes,List.getElem?_set_self hk] at a1;rw [List.getElem?_set_self (by rw [hhl];exact hk)] at a2;cases a1;cases a2;refine⟨⟨pre,inner,post,ys,rfl,hj,owns q1 (fun b' hb'=>hmb b' (by rw [← q2];exact hb')),D.repL_ext hE _ _ r4,r2⟩,fun b' hb' => ?_⟩;simp only [Y1,if_pos];exact .inr (by rw [← q2];exact hb')
    ·rw [hes,List.getElem?_set_ne (Ne.symm e)] at a1;rw [List.getElem?_set_ne (Ne.symm e)] at a2;obtain⟨⟨pre1,inner1,post1,ys1,i1,i2,i3,i4,i5⟩,g⟩:=h7 i x' u a1 a2 (by simpa using Ne.symm e);refine⟨⟨pre1,inner1,post1,ys1,i1,i2,owns i3 (fun b' hb' e'=>(F2 nm b' ⟨_,hob⟩ (g b' hb')).2.2.2.1 nm hl (e' ▸ hb)),D.repL_ext hE _ _ i4,i5⟩,fun b' hb' => ?_⟩;simp only [Y1,if_pos];exact .inl (g b' hb')
   ·have inY:∀ p w',p≠k→(hs.set k h')[p]? = some w'→w'.ownBlock=some b'→Y nm b':=fun p w' hp hw1 hw2=>by
     rw [List.getElem?_set_ne (Ne.symm hp)] at hw1;have hp':p<es.length:=by rw [← hhl];exact(List.getElem?_eq_some_iff.1 hw1).1
     exact(h7 p _ w' (List.getElem?_eq_getElem hp') hw1 (by simpa using Ne.symm hp)).2 b' hw2
    have atk:∀ w',(hs.set k h')[k]? = some w'→w'.ownBlock=some b'→σ m=some b':=fun w' hw1 hw2=>by
     rw [List.getElem?_set_self (by rw [hhl];exact hk)] at hw1;cases hw1;rw [← q2];exact hw2
    by_cases e:i=k<;>by_cases e':i'=k
    ·rw [e,e']
    ·subst e;exact absurd (atk u a1 a5) ((F2 nm b' ⟨_,hob⟩ (inY i' u' e' a2 a6)).2.2.2.1 m hlm)
    ·subst e';exact absurd (atk u' a2 a6) ((F2 nm b' ⟨_,hob⟩ (inY i u e a1 a5)).2.2.2.1 m hlm)
    ·rw [List.getElem?_set_ne (Ne.symm e)] at a1;rw [List.getElem?_set_ne (Ne.symm e')] at a2;exact h8 i i' u u' b' a1 a2 (by simpa using Ne.symm e) (by simpa using Ne.symm e') a5 a6
  have hlv:∀ q,live (updO (updO ob m none) nm (some (.reg (nrow e sz j e2 sz2 es' none)))) q→q≠m∧live ob q:=fun q hq=>by
   rw [F0] at hq
   by_cases e:q=nm
   ·rw [e];exact⟨Ne.symm hmn,hl⟩
   ·rw [if_neg e,F0] at hq
    by_cases e':q=m
    ·rw [if_pos e'] at hq;simp at hq
    ·rw [if_neg e'] at hq;exact⟨e',hq⟩
  have hrg:∀ q,isReg (updO (updO ob m none) nm (some (.reg (nrow e sz j e2 sz2 es' none)))) q→isReg ob q:=fun q hq=>by
   rcases N0 hq with ⟨e,_⟩ | ⟨_,h⟩
   ·rw [e];exact⟨_,hob⟩
   ·rcases N0 h with ⟨_,r,h⟩ | ⟨_,h⟩
    ·cases h
    ·exact h
  have F':Foot B.w0.heap.size B.own (updO (updO ob m none) nm (some (.reg (nrow e sz j e2 sz2 es' none)))) σ Z w':=by
   refine⟨Y1,fun q r hq => ?_,fun q b' hq hy' => ?_⟩
   ·by_cases e:q=nm
    ·unfold updO at hq;rw [if_pos e] at hq;simp only [Option.some.injEq,Ob.reg.injEq] at hq;subst hq;rw [e];exact hrep1
    ·have hqr:=hrg q ⟨r,hq⟩;unfold updO at hq;rw [if_neg e] at hq;split at hq
     ·simp at hq
     ·have:=F1 q r hq;simp only [Y1,if_neg e];exact r.move hE (fun b' hb'=>keepY q b' hqr hb') (fun b' hb'=>hold b' fun e'=>e (sm.inj q nm b hqr.live hl (e' ▸ hb') hb)) this
   ·have hq':=hrg q hq
    by_cases e:q=nm
    ·simp only [Y1,if_pos e] at hy';rcases hy' with hy' | hy'
     ·obtain⟨f1,f2,f3,f4,f5⟩:=F2 nm b' ⟨_,hob⟩ hy';refine⟨f1,by rw [hsz'];exact f2,f3,fun p hp=>f4 p (hlv p hp).2,fun p hp hpy => ?_⟩;rw [e]
      by_cases e2:p=nm
      ·exact e2
      ·simp only [Y1,if_neg e2] at hpy;exact f5 p (hrg p hp) hpy
     ·obtain⟨f1,f3⟩:=sm.blk m b' hlm hy';refine⟨f1,by rw [hsz'];exact sm.lt hlm hy',f3,fun p hp hpb=>(hlv p hp).1 (sm.inj p m b' (hlv p hp).2 hlm hpb hy'),fun p hp hpy => ?_⟩;rw [e]
      by_cases e2:p=nm
      ·exact e2
      ·simp only [Y1,if_neg e2] at hpy;exact absurd hy' ((F2 p b' (hrg p hp) hpy).2.2.2.1 m hlm)
    ·simp only [Y1,if_neg e] at hy';obtain⟨f1,f2,f3,f4,f5⟩:=F2 q b' hq' hy';refine⟨f1,by rw [hsz'];exact f2,f3,fun p hp=>f4 p (hlv p hp).2,fun p hp hpy => ?_⟩
     by_cases e2:p=nm
     ·simp only [Y1,if_pos e2] at hpy;rcases hpy with hpy | hpy
      ·rw [e2];exact f5 nm ⟨_,hob⟩ hpy
      ·exact absurd hpy (f4 m hlm)
     ·simp only [Y1,if_neg e2] at hpy;exact f5 p (hrg p hp) hpy
  have sk:=sm.kill m;have s2:=sk.setObjF (n:=nm) (b:=b) (e:=e) (o:=.reg (nrow e sz j e2 sz2 es (some k))) (o':=.reg (nrow e sz j e2 sz2 es' none)) (cur:=cur) (new:=((A++c1++h' :: (c3++C))++T).toArray) (by simp [updO,Ne.symm hmn];exact hob) hb k3 hsame
   (fun ob' mv=>by rw [hw'];intro b' hb';rw [hb] at hb';cases hb';rw [hsz'];exact sm.lt hl hb) (by rw [hw'];exact F')
  rw [hw'] at s2;rw [A88 _ rfl];refine⟨w',σ,Z,.inl ?_,s2⟩;simp only [execOp,hv,hh',Instr.storeAt,Instr.sureAddr,Sem.run_bind,Sem.run_pure,Result.andThen_ok,hrun]
theorem C0d {n m q:Nat} {x y z:Option Ob} (α:Eff) (h:α.wo=[(m,y),(n,x),(q,z)]) {ob:Obs}:α.obs ob=updO (updO (updO ob q z) n x) m y:=by
 funext k;unfold Eff.obs updO;rw [h,G4,G4,G4]
 by_cases h1:m=k
 ·subst h1;simp
 ·by_cases h2:n=k
  ·subst h2;simp [h1,Ne.symm h1]
  ·by_cases h3:q=k
   ·subst h3;simp [h1,h2,Ne.symm h1,Ne.symm h2]
   ·simp [h1,h2,h3,Ne.symm h1,Ne.symm h2,Ne.symm h3,look]
theorem OpJ.appendG {t e sz bytes j e2 sz2:Nat} (hB:B.ok) (hu:P.underlying t=some (.slice e)) (he:TyE P e sz bytes) {n m nm:Nat} (hnm:1000≤nm) {es ys es':List D} {len l0 l1:Nat} (hmn:Nat.beq m n=false) (hes:es'=es++ys) (hlen:len=es'.length) (hy0:ys≠[])
  (hb:es'.length*bytes≤140737488355328) (hb63:es'.length≤9223372036854775807) (hN:d<B.N) (hl0:l0=es.length) (hl1:l1=ys.length) (hx:Opd x (.sref n sz 0 l0) nt) (hy:Opd y (.sref m sz 0 l1) nt') :
  OpJ P B ops ⟨some d,.call { callee:=.builtin .append,args:=#[x,y],argTypes:=#[t,t] },ty,pos,af,none⟩
   { nt:=nt++nt',no:=[(n,.reg (nrow e sz j e2 sz2 es none)),(m,.reg (nrow e sz j e2 sz2 ys none))],nf:=[nm],wt:=[(d,.sref nm sz 0 len)],wo:=[(nm,some (.reg (nrow e sz j e2 sz2 es' none))),(m,none),(n,none)] } :=
 OpJ.run rfl rfl hN rfl fun env ob a w σ Z sm hne=>by
  subst hl0;subst hl1;obtain⟨n1,n2⟩:=F9 hne.1;have hob:=hne.2.1 (n,.reg (nrow e sz j e2 sz2 es none)) (by simp);have hom:=hne.2.1 (m,.reg (nrow e sz j e2 sz2 ys none)) (by simp);have hfr:ob nm=none:=hne.2.2 nm (by simp);have hl:live ob n:=⟨_,hob⟩;have hlm:live ob m:=⟨_,hom⟩;have hmn:m≠n:=fun h=>by rw [h] at hmn;simp at hmn
  have hnn:nm≠n:=fun h=>by subst h;exact hl.used hfr
  have hnm':nm≠m:=fun h=>by subst h;exact hlm.used hfr
  obtain⟨Y,F1,F2⟩:=sm.foot;obtain⟨h0,h1,h2,v,xs,hs,h3,h4,h5,h6,h7,h8⟩:=F1 n _ hob;obtain⟨_,_,g2,u,zs,gs,g3,g4,g5,g6,g7,g8⟩:=F1 m _ hom;obtain⟨hown,hblk⟩:=B24 (hx B env ob a w σ Z sm n1) hl h0 h3 h4;obtain⟨hown2,hblk2⟩:=B24 (hy B env ob a w σ Z sm n2) hlm h0 g3 g4;generalize hvx:a.eval x=vx at hown hblk;obtain⟨ti,z,hi,hz,hs',hby,hzs⟩:=he.get;have hlen':es'.length=es.length+ys.length:=by rw [hes,List.length_append]
  -- the literal
  obtain⟨bm,cm,curm,k1,k3,k4,k5,k6,k7⟩:∃ bm cm curm,a.eval y = .slice (some ⟨bm,0,none⟩) ys.length cm∧w.heap[bm]? = some (.cells curm e (0,0))∧ys.length≤cm∧cm≤maxLen∧curm.size=cm*sz∧curm.toList.take (ys.length*sz)=zs:=by
   rcases hown2.2 with ⟨_,g⟩ | ⟨g,cap,cur,k1,_,k3,k4,k5,k6,k7⟩
   ·exact absurd (List.eq_nil_of_length_eq_zero g) hy0
   ·exact⟨g,cap,cur,k1,k3,k4,k5,k6,k7⟩
  have hcells:∀ q u,zs[q]? = some u→w.cell? ((⟨bm,0,none⟩:Addr).add q)=some u:=fun q u hq=>by
   rw [A15,Nat.zero_add,cell_of_row w bm q curm e (0,0) k3];rw [← k7,List.getElem?_take] at hq;split at hq
   ·simpa using hq
   ·cases hq
  obtain⟨v',w',r1,r2,r3,_,r5⟩:=run_append_own_at (P:=P) w 0 t ty e ti z sz bytes hu hi hz hs' hby hzs he.pos vx es.length xs hown ⟨bm,0,none⟩ ys.length cm zs hown2.1
   hcells g6.one (by simp only [maxLen];omega) (by rw [← hlen'];exact hb) (Nat.zero_le _)
  have hne0:es.length+ys.length≠0:=by
   cases ys with
   | nil=>exact absurd rfl hy0
   | cons _ _=>simp
  rw [hblk] at r3 r5;have hE:Ext Z Z w w':=⟨fun _ h=>h,fun q hq=>r3.block q (sm.zlt q hq) fun e=>(sm.blk n q hl e.symm).1 hq⟩;have keep:∀ b',b'<w.heap.size→σ n≠some b'→w'.heap[b']? = w.heap[b']? :=fun b' h1 h2=>r3.block b' h1 (Ne.symm h2);have keepY:∀ q b',isReg ob q→Y q b'→w'.heap[b']? = w.heap[b']? :=fun q b' hq hy'=>keep b' (F2 q b' hq hy').2.1 ((F2 q b' hq hy').2.2.2.1 n hl);have innY:∀ {q:Nat} {x':D} {h:Value},isReg ob q→Inn Z w e2 sz2 j x' h→(∀ b',h.ownBlock=some b'→Y q b')→Inn Z w' e2 sz2 j x' h:=fun {q x' h} hq hi' hb'=>by
   obtain⟨pre,inner,post,ys1,i1,i2,⟨i3,i3'⟩,i4,i5⟩:=hi';refine⟨pre,inner,post,ys1,i1,i2,⟨i3,?_⟩,D.repL_ext hE _ _ i4,i5⟩;rcases i3' with i3' | ⟨g,cap,cur,m1,m2,m3,m4⟩
   ·exact .inl i3'
   ·exact .inr ⟨g,cap,cur,m1,m2,(keepY q g hq (hb' g (by rw [m1];rfl))).trans m3,m4⟩
  let Y1:Nat→Nat→Prop:=fun q b'=>if q=nm then Y n b'∨Y m b' else Y q b'
  have hll:=h6.len;have gll:=g6.len;have hrep1:(nrow e sz j e2 sz2 es' none).holds Z w' (Y1 nm) v'.ownBlock:=by
   refine⟨h0,h1,fun x' hx' => ?_,v',xs++zs,hs++gs,by rw [hlen'];exact r2,rfl,fun hn => ?_,by rw [hes];exact NRs.append (g6.ext hE) (h6.ext hE),fun i x' u' a1 a2 _ => ?_,fun i i' u' u'' b' a1 a2 _ _ a5 a6 => ?_⟩
   ·rw [hes] at hx';rcases List.mem_append.1 hx' with hx' | hx'
    ·exact h2 x' hx'
    ·exact g2 x' hx'
   ·rcases r2.2 with ⟨_,h00⟩ | ⟨g,cap,cur,hv,_⟩
    ·omega
    ·rw [hv] at hn;simp [Value.ownBlock] at hn
   ·rw [hes] at a1;simp only [Y1,if_pos];rcases Nat.lt_or_ge i es.length with hlt | hge
    ·rw [List.getElem?_append_left hlt] at a1;rw [List.getElem?_append_left (by omega)] at a2;obtain⟨q1,q2⟩:=h7 i x' u' a1 a2 (by simp);exact⟨innY ⟨_,hob⟩ q1 q2,fun b' hb' => .inl (q2 b' hb')⟩
    ·rw [List.getElem?_append_right hge] at a1;rw [List.getElem?_append_right (by omega),hll] at a2;obtain⟨q1,q2⟩:=g7 _ x' u' a1 a2 (by simp);exact⟨innY ⟨_,hom⟩ q1 q2,fun b' hb' => .inr (q2 b' hb')⟩
   ·have inA:∀ {p:Nat} {w1:Value},p<es.length→(hs++gs)[p]? = some w1→w1.ownBlock=some b'→hs[p]? = some w1∧Y n b':=fun {p w1} hp c1 c2=>by
     rw [List.getElem?_append_left (by omega)] at c1;exact⟨c1,(h7 p _ w1 (List.getElem?_eq_getElem hp) c1 (by simp)).2 b' c2⟩
    have inB:∀ {p:Nat} {w1:Value},es.length≤p→(hs++gs)[p]? = some w1→w1.ownBlock=some b'→gs[p-es.length]? = some w1∧Y m b':=fun {p w1} hp c1 c2=>by
     rw [List.getElem?_append_right (by omega),hll] at c1;have hlt:p-es.length<ys.length:=by rw [← gll];exact(List.getElem?_eq_some_iff.1 c1).1
     exact⟨c1,(g7 _ _ w1 (List.getElem?_eq_getElem hlt) c1 (by simp)).2 b' c2⟩
    rcases Nat.lt_or_ge i es.length with hi1 | hi1<;>rcases Nat.lt_or_ge i' es.length with hi2 | hi2
    ·exact h8 i i' u' u'' b' (inA hi1 a1 a5).1 (inA hi2 a2 a6).1 (by simp) (by simp) a5 a6
    ·exact absurd ((F2 n b' ⟨_,hob⟩ (inA hi1 a1 a5).2).2.2.2.2 m ⟨_,hom⟩ (inB hi2 a2 a6).2) hmn
    ·exact absurd ((F2 n b' ⟨_,hob⟩ (inA hi2 a2 a6).2).2.2.2.2 m ⟨_,hom⟩ (inB hi1 a1 a5).2) hmn
    ·have:=g8 _ _ u' u'' b' (inB hi1 a1 a5).1 (inB hi2 a2 a6).1 (by simp) (by simp) a5 a6;omega
  have hlv:∀ q,live (updO (updO ob n none) m none) q→q≠n∧q≠m∧live ob q:=fun q hq=>by
   rw [F0] at hq
   by_cases e:q=m
   ·rw [if_pos e] at hq;simp at hq
   ·rw [if_neg e,F0] at hq
    by_cases e':q=n
    ·rw [if_pos e'] at hq;simp at hq
    ·rw [if_neg e'] at hq;exact⟨e',e,hq⟩
  have hrg:∀ q,isReg (updO (updO (updO ob n none) m none) nm (some (.reg (nrow e sz j e2 sz2 es' none)))) q→q=nm∨(q≠nm∧q≠n∧q≠m∧isReg ob q):=fun q hq=>by
   rcases N0 hq with ⟨e,_⟩ | ⟨e,h⟩
   ·exact .inl e
   ·have hh:=hlv q h.live;rcases N0 h with ⟨_,r,h⟩ | ⟨_,h⟩
    ·cases h
    ·rcases N0 h with ⟨_,r,h⟩ | ⟨_,h⟩
     ·cases h
     ·exact .inr ⟨e,hh.1,hh.2.1,h⟩
  have F':Foot B.w0.heap.size B.own (updO (updO (updO ob n none) m none) nm (some (.reg (nrow e sz j e2 sz2 es' none)))) (updS σ nm v'.ownBlock) Z w':=by
   refine⟨Y1,fun q r hq => ?_,fun q b' hq hy' => ?_⟩
   ·rcases hrg q ⟨r,hq⟩ with e | ⟨e,e1,e2,hr⟩
    ·unfold updO at hq;rw [if_pos e] at hq;simp only [Option.some.injEq,Ob.reg.injEq] at hq;subst hq;subst e;simp only [updS,if_pos];exact hrep1
    ·have hq':ob q=some (some (.reg r)):=by simpa [updO,e,e1,e2] using hq
     simp only [updS,if_neg e,Y1];exact r.move hE (fun b' hb'=>keepY q b' hr hb') (fun b' hb'=>keep b' (sm.lt hr.live hb') fun en=>e1 (sm.inj q n b' hr.live hl hb' en)) (F1 q r hq')
   ·
    have old:∃ q0,isReg ob q0∧Y q0 b'∧(q=nm→q0=n∨q0=m)∧(q≠nm→q0=q):=by
     rcases hrg q hq with e | ⟨e,e1,e2,hr⟩
     ·simp only [Y1,if_pos e] at hy';rcases hy' with hy' | hy'
      ·exact⟨n,⟨_,hob⟩,hy',fun _ => .inl rfl,fun h=>absurd e h⟩
      ·exact⟨m,⟨_,hom⟩,hy',fun _ => .inr rfl,fun h=>absurd e h⟩
     ·simp only [Y1,if_neg e] at hy';exact⟨q,hr,hy',fun h=>absurd h e,fun _=>rfl⟩
    obtain⟨q0,hq0,hy0',ha,hbq⟩:=old;obtain⟨f1,f2,f3,f4,f5⟩:=F2 q0 b' hq0 hy0';refine⟨f1,Nat.lt_of_lt_of_le f2 r3.size,f3,fun p hp hpb => ?_,fun p hp hpy => ?_⟩
    ·rw [F0] at hp
     by_cases e:p=nm
     ·simp only [updS,if_pos e] at hpb;rcases r5 with r5 | r5
      ·exact f4 n hl (by rw [← r5];exact hpb)
      ·rw [r5] at hpb;simp only [Option.some.injEq] at hpb;omega
     ·rw [if_neg e] at hp;simp only [updS,if_neg e] at hpb;exact f4 p (hlv p hp).2.2 hpb
    ·have old2:∃ p0,isReg ob p0∧Y p0 b'∧(p=nm→p0=n∨p0=m)∧(p≠nm→p0=p∧p≠n∧p≠m):=by
      rcases hrg p hp with e | ⟨e,e1,e2,hr⟩
      ·simp only [Y1,if_pos e] at hpy;rcases hpy with hpy | hpy
       ·exact⟨n,⟨_,hob⟩,hpy,fun _ => .inl rfl,fun h=>absurd e h⟩
       ·exact⟨m,⟨_,hom⟩,hpy,fun _ => .inr rfl,fun h=>absurd e h⟩
      ·simp only [Y1,if_neg e] at hpy;exact⟨p,hr,hpy,fun h=>absurd h e,fun _=>⟨rfl,e1,e2⟩⟩
     obtain⟨p0,hp0,hpy0,ha',hb'⟩:=old2;have:=f5 p0 hp0 hpy0
     by_cases e:p=nm<;>by_cases e':q=nm
     ·rw [e,e']
     ·obtain⟨g1,g2,g3⟩:q0=q∧q≠n∧q≠m:=by
       rcases hrg q hq with h | ⟨_,h1,h2,_⟩
       ·exact absurd h e'
       ·exact⟨hbq e',h1,h2⟩
      rcases ha' e with h | h
      ·exact absurd (by rw [← g1,← this,h]) g2
      ·exact absurd (by rw [← g1,← this,h]) g3
     ·obtain⟨g1,g2,g3⟩:=hb' e;rcases ha e' with h | h
      ·exact absurd (by rw [← g1,this,h]) g2
      ·exact absurd (by rw [← g1,this,h]) g3
     ·rw [← (hb' e).1,this,hbq e']
  have s2:=((sm.kill n).kill m).rowNewF hB (nm:=nm) (by simp [updO,hnn,hnm',hfr]) hnm r3
   (fun p b' hp hpb e=>(hlv p hp).1 (sm.inj p n b' (hlv p hp).2.2 hl hpb e.symm))
   (fun b' hb'=>sm.blk n b' hl hb') r5
   (o:=.reg (nrow e sz j e2 sz2 es' none)) (fun ob' σ' mv hσ b' hb'=>r2.lt b' (hσ ▸ hb') |>.2) F'
  rw [C0d _ rfl];refine⟨v',w',_,Z,?_,s2,?_⟩
  ·simp only [execOp,resolve,invoke,builtin,Sem.run_bind,Sem.run_pure,Result.andThen_ok,List.map_toArray,List.map_cons,List.map_nil];rw [k1,hvx,r1];rfl
  ·rw [hlen,hlen'];exact V4 (e:=e) (xs:=xs++zs) (by rw [F0];simp) r2 (by simp [updS])
theorem Sim.footAdd {env:Env} {ob:Obs} {a:Act} {w w1:World} {σ:Nat→Option Nat} {Z:Nat→Prop} (s:Sim B env ob a w σ Z) {nm:Nat} (hn:ob nm=none) {g:Option Nat} {r:Reg} (hsz:w.heap.size≤w1.heap.size) (hold:∀ k,k<w.heap.size→w1.heap[k]? = w.heap[k]?) (hg:∀ b,g=some b→w.heap.size≤b)
  (hr:r.holds Z w1 (fun _=>False) g):Foot B.w0.heap.size B.own (updO ob nm (some (.reg r))) (updS σ nm g) Z w1:=by
 obtain⟨Y,F1,F2⟩:=s.foot;have hE:Ext Z Z w w1:=⟨fun _ h=>h,fun q hq=>hold q (s.zlt q hq)⟩;have hrg:∀ q,q≠nm→isReg (updO ob nm (some (.reg r))) q→isReg ob q:=fun q hq h=>by
  rcases N0 h with ⟨e,_⟩ | ⟨_,h⟩
  ·exact absurd e hq
  ·exact h
 refine⟨fun q b=>q≠nm∧Y q b,fun q r' hq => ?_,fun q b hq hy => ?_⟩
 ·by_cases e:q=nm
  ·unfold updO at hq;rw [if_pos e] at hq;simp only [Option.some.injEq,Ob.reg.injEq] at hq;subst hq;simp only [updS,e,if_pos];have:(fun b=>nm≠nm∧Y nm b)=fun _=>False:=by funext b;simp
   rw [this];exact hr
  ·have hq':ob q=some (some (.reg r')):=by simpa [updO,e] using hq
   have hl:live ob q:=⟨_,hq'⟩;simp only [updS,if_neg e];have:(fun b=>q≠nm∧Y q b)=Y q:=by funext b;simp [e]
   rw [this];exact r'.move hE (fun b hb=>hold b (F2 q b ⟨_,hq'⟩ hb).2.1) (fun b hb=>hold b (s.lt hl hb)) (F1 q r' hq')
 ·obtain⟨f1,f2,f3,f4,f5⟩:=F2 q b (hrg q hy.1 hq) hy.2;refine⟨f1,Nat.lt_of_lt_of_le f2 hsz,f3,fun p hp hpb => ?_,fun p hp hpy=>f5 p (hrg p hpy.1 hp) hpy.2⟩;rw [F0] at hp
  by_cases e:p=nm
  ·simp only [updS,if_pos e] at hpb;have:=hg b hpb;omega
  ·rw [if_neg e] at hp;simp only [updS,if_neg e] at hpb;exact f4 p hp hpb
theorem B61 {ob:Obs} {σ:Nat→Option Nat} {Z:Nat→Prop} {w:World}:∀ {xs ys:List V} {cs:List Value},V.repS ob σ Z w (xs++ys) cs→∃ c1 c2,cs=c1++c2∧V.repS ob σ Z w xs c1∧V.repS ob σ Z w ys c2
 | [],_,cs,h=>⟨[],cs,rfl,rfl,h⟩
 | x :: xs,ys,cs,h=>by
  obtain⟨a,b,h1,h2,h3,h4,h5⟩:=h;obtain⟨c1,c2,e,g1,g2⟩:=B61 h5;exact⟨a++c1,c2,by rw [h1,e];simp,⟨a,c1,rfl,h2,h3,h4,g1⟩,g2⟩
theorem OpJ.buildSliceG {t e sz j e2 sz2:Nat} {ag:Bool} {z:D} (hu:P.underlying t=some (.slice e)) (ht:TyS P e sz ag) (hz:TyZ P e (.d z)) (hzs:z.sz=sz) (h0:0<sz) (h02:0<sz2) (hn24:sz≤16777216) (hB:B.ok) {nm:Nat} (hnm:1000≤nm)
  {xo:Operand} {pre post:List D} {nt:List (Nat×V)} (hx:Opd xo (.st (pre.map .d ++ .nils :: post.map .d)) nt) (hok:okParts [(0,sz)] [.d z] [(0,.st (pre.map .d ++ .nils :: post.map .d))]=true)
  {es:List D} (hes:es=[.st (pre ++ .list sz2 [] :: post)]) (hj:pre.length=j) (hsz:D.szs sz es=true) (hN:d<B.N) :
  OpJ P B ops ⟨some d,.buildSlice t 1 #[(0,xo)],ty,pos,af,none⟩ { nt,nf:=[nm],wt:=[(d,.sref nm sz 0 1)],wo:=[(nm,some (.reg (nrow e sz j e2 sz2 es none)))] } :=
 OpJ.run rfl rfl hN rfl fun env ob a w σ Z sm hne=>by
  have hzp:z.plain=true:=hz.plain;have hrep:=D.rep_enc (Z:=Z) (w:=w) z hzp;have hzl:=D.rep_len z _ hrep;have hcells:(valOf (V.d z).isAgg (V.d z).enc).cells=z.enc.toArray:=by
   have:=hz.cells;rw [← Array.toArray_toList (xs:=(valOf (V.d z).isAgg (V.d z).enc).cells),this];rfl
  have hone:∀ u∈z.enc,u.oneCell'=true:=D.rep_one _ _ hrep;obtain⟨cells',k1,k2,k3⟩:=A5s sm (.cons hx .nil) (by simpa using hne.1) (cells:=z.enc.toArray) hok (⟨z.enc,[],by simp,hzl,hone,hrep,rfl⟩) (by simp [V.szL,V.sz,hzl]) (by simpa using hone);obtain⟨cc,rest,e1,e2',_,e4,e5⟩:=k2;have e5':rest=[]:=e5;subst e5';rw [List.append_nil] at e1;obtain⟨c1,c2,q1,q2,q3⟩:=B61 (show V.repS ob σ Z w (pre.map .d ++ .nils :: post.map .d) cc from e4);obtain⟨hd,c3,q4,_,_,q5,q6⟩:=q3;have q5':hd=[.slice none 0 0]:=q5;subst q5';have p1:=A89 q2;have p3:=A89 q6;have hxs:(D.st (pre ++ .list sz2 [] :: post)).sz=sz:=D.szs_spec hsz _ (by rw [hes];simp);have hlen:cells'.size=sz:=by
   rw [← Array.length_toList,e1,q1,q4,← hxs];simp only [D.sz,B25,D.szL,List.length_append,List.length_cons,List.length_nil,D.repL_len _ _ p1,D.repL_len _ _ p3]
  have hfr:ob nm=none:=hne.2.2 nm (by simp);have hl1:es.length=1:=by rw [hes];rfl
  have hown:(w.alloc (.cells cells' e)).ownsRow 0 e sz (.slice (some ⟨w.heap.size,0,none⟩) 1 1) 1 cells'.toList :=
   ⟨by rw [Array.length_toList,hlen];omega,.inr ⟨w.heap.size,1,_,rfl,Nat.zero_le _,heap_alloc_new w _,Nat.le_refl _,by simp [maxLen],by omega,by rw [List.take_of_length_le (by rw [Array.length_toList,hlen];omega)]⟩⟩
  have hE:Ext Z Z w (w.alloc (.cells cells' e)):=⟨fun _ h=>h,fun q hq=>Go.RowKit.Below.heap_alloc w _ q (sm.zlt q hq)⟩;have hholds:(nrow e sz j e2 sz2 es none).holds Z (w.alloc (.cells cells' e)) (fun _=>False) (some w.heap.size):=by
   refine⟨h0,h02,D.szs_spec hsz,_,_,[.slice none 0 0],by rw [hl1];exact hown,rfl,(fun h=>by cases h),?_,fun i x h a1 a2 _ => ?_,fun i k h h' b a1 a2 _ _ a5 _ => ?_⟩
   ·rw [hes];exact⟨pre,[],post,c1,c3,[],rfl,hj,by rw [e1,q1,q4];simp,D.repL_ext hE _ _ p1,D.repL_ext hE _ _ p3,rfl,rfl⟩
   ·cases i with
    | succ i=>simp at a2
    | zero =>
     rw [hes] at a1;simp at a1 a2;subst a1;subst a2;exact⟨⟨pre,[],post,[],rfl,hj,World.ownsRow_nil _ 0 e2 sz2,rfl,fun _ h=>by cases h⟩,fun b hb=>by simp [Value.ownBlock] at hb⟩
   ·cases i with
    | succ i=>simp at a1
    | zero=>simp at a1;subst a1;simp [Value.ownBlock] at a5
  have s2:=sm.newObjF hB hfr hnm (o:=.reg (nrow e sz j e2 sz2 es none)) (c:=.cells cells' e) (fun ob' σ' m hσ b hb=>by rw [hσ] at hb;cases hb;simp)
   (sm.footAdd hfr (by simp) (fun k hk=>Go.RowKit.Below.heap_alloc w _ k hk) (fun b hb=>by cases hb;exact Nat.le_refl _) hholds)
  rw [I4 _ rfl];refine⟨.slice (some ⟨w.heap.size,0,none⟩) 1 1,w.alloc (.cells cells' e),updS σ nm (some w.heap.size),Z,?_,s2,?_⟩
  ·have hfill:Instr.fill (fun i=>if i<1 then some (i*sz,sz) else none) z.enc.toArray [(0,a.eval xo)]=some cells':=by
    rw [← k1];simp [Instr.fill]
   have hfill':Instr.fill (fun i=>some (i*sz,sz)) z.enc.toArray [(0,a.eval xo)]=some cells':=by
    rw [← k1];simp [Instr.fill]
   have hzero:((Array.range sz).map fun i=>z.enc.toArray[i % z.enc.toArray.size]!)=z.enc.toArray:=by
    have:=T2 z.enc (by omega) 1;simp only [List.replicate_one,List.flatten_cons,List.flatten_nil,List.append_nil,Nat.one_mul,hzl,hzs] at this;apply Array.toList_inj.1;have hr:z.enc.toArray.size=z.enc.length:=by simp
    rw [hr,hzl,hzs];simpa [hzl,hzs] using this
   simp only [execOp,Instr.buildSlice,Sem.run_bind,run_underlying hu,Result.andThen_ok,ht.run_size,Sem.run_pure,Nat.one_mul];rw [if_neg (show ¬ sz > 2 ^ 24 from by omega),if_neg (show ¬ sz=0 from by omega)];simp only [Sem.run_bind,hz.run,Result.andThen_ok,Sem.run_pure,hcells,hzero,List.map_toArray,List.map_cons,List.map_nil,hfill',A17]
  ·exact V4 (e:=e) (xs:=cells'.toList) (by rw [F0];simp) hown (by simp [updS,Value.ownBlock])
theorem Mat.beginG {E Ts:EL} {O Bs:OL} {n e sz j e2 sz2:Nat} (hB:B.ok) (hsz:0<sz) (hsz2:0<sz2) (hn:look O n=none) (h1000:1000≤n) (hT:TwT (BegL n sz) E Ts) (hBs:TwB (BegL n sz) ((n,some (.reg (nrow e sz j e2 sz2 [] none))) :: O) Bs) :
  Mat B E O (Ts++E) (Bs++(n,some (.reg (nrow e sz j e2 sz2 [] none))) :: O):=fun a w σ Z s=>by
 have s2:=s.rowNewF hB (nm:=n) hn h1000 (g:=none) (g':=none) (World.grownBy.refl w _) (fun _ _ _ _ h=>by cases h) (fun _ h=>by cases h) (.inl rfl)
  (o:=.reg (nrow e sz j e2 sz2 [] none)) (fun ob' σ' m hσ b hb=>by rw [hσ] at hb;cases hb)
  (s.footAdd hn (Nat.le_refl _) (fun _ _=>rfl) (fun b hb=>by cases hb) ⟨hsz,hsz2,(fun _ h=>by cases h),.slice none 0 0,[],[],World.ownsRow_nil w 0 e sz,rfl,fun _=>rfl,rfl,fun i x h a1=>by simp at a1,fun i k h h' b a1=>by simp at a1⟩)
 rw [← A5o] at s2;refine⟨_,_,s2.turn s2 (Move.refl _ _ _ _) ⟨?_,?_⟩ (fun q t x h=>⟨h,rfl⟩) hT hBs⟩
 ·rintro x y ⟨rfl,rfl⟩;exact⟨rfl,rfl,by simp,rfl,rfl⟩
 ·rintro x y ⟨rfl,rfl⟩ cs hr;have hc:cs=[.slice none 0 0]:=hr;subst hc;exact⟨by unfold used;rw [G4];simp,fun _=>⟨none,0,rfl,Nat.le_refl _,by omega,.inl ⟨by simp [updS],rfl,rfl,rfl⟩⟩⟩
end
theorem Sim.settleS {env:Env} {ob:Obs} {a:Act} {w:World} {σ:Nat→Option Nat} {Z:Nat→Prop} (s:Sim B env ob a w σ Z) {n:Nat} (hl:live ob n) {S:Nat→Prop} (hS:∀ q,S q→q<w.heap.size∧(B.w0.heap.size≤q∨B.own q)∧∀ p,live ob p→p≠n→σ p≠some q)
  (hF:Foot B.w0.heap.size B.own (updO ob n none) σ (fun q=>Z q∨S q) w):Sim B env (updO ob n none) a w σ (fun q=>Z q∨S q):=by
 have sk:=s.kill n;have hlv:∀ m,live (updO ob n none) m→m≠n∧live ob m:=fun m hm=>by
  rw [F0] at hm
  by_cases hmn:m=n
  ·rw [if_pos hmn] at hm;simp at hm
  ·rw [if_neg hmn] at hm;exact⟨hmn,hm⟩
 have m:Move (updO ob n none) (updO ob n none) σ σ Z (fun q=>Z q∨S q) w w:=⟨⟨fun _ h => .inl h,fun _ _=>rfl⟩,fun _ h=>h,fun _ _ h=>⟨h,rfl⟩,fun _ _ _ _ _=>rfl⟩;refine { sk with env:=?_,obj:=?_,blk:=?_,zlt:=?_,zsub:=fun q h => .inl (sk.zsub q h),znew:=?_,foot:=hF }
 ·intro j x hj;obtain⟨u,h1,h2⟩:=sk.env j x hj;exact⟨u,h1,h2.move m⟩
 ·intro q o hq;exact Ob.rep_move m (sk.obj q o hq) rfl (fun _ _=>rfl)
 ·intro p q hp hq;obtain⟨g1,g2⟩:=sk.blk p q hp hq;refine⟨fun h => ?_,g2⟩;rcases h with h | h
  ·exact g1 h
  ·exact(hS q h).2.2 p (hlv p hp).2 (hlv p hp).1 hq
 ·intro q h;rcases h with h | h
  ·exact sk.zlt q h
  ·exact(hS q h).1
 ·intro q h;rcases h with h | h
  ·exact sk.znew q h
  ·exact .inr (hS q h).2.1
theorem Sim.settleG {env:Env} {ob:Obs} {a:Act} {w:World} {σ:Nat→Option Nat} {Z:Nat→Prop} (s:Sim B env ob a w σ Z) {n e sz j e2 sz2:Nat} {es:List D} (hn:ob n=some (some (.reg (nrow e sz j e2 sz2 es none)))) :
  ∃ Z',Sim B env (updO ob n none) a w σ Z'∧Move ob (updO ob n none) σ σ Z Z' w w∧∀ off len cs,V.rep ob σ Z w (.sref n sz off len) cs→off+len≤es.length→D.rep Z' w (.list sz ((es.drop off).take len)) cs:=by
 have hl:live ob n:=⟨_,hn⟩;have hlv:∀ m,live (updO ob n none) m→m≠n∧live ob m:=fun m hm=>by
  rw [F0] at hm
  by_cases hmn:m=n
  ·rw [if_pos hmn] at hm;simp at hm
  ·rw [if_neg hmn] at hm;exact⟨hmn,hm⟩
 obtain⟨Y,F1,F2⟩:=s.foot;obtain⟨h0,h1,h2,v,xs,hs,h3,h4,h5,h6,h7,h8⟩:=F1 n _ hn
 let S:Nat→Prop:=fun q=>Y n q∨σ n=some q
 have hS:∀ q,S q→q<w.heap.size∧(B.w0.heap.size≤q∨B.own q)∧∀ p,live ob p→p≠n→σ p≠some q:=fun q hq=>by
  rcases hq with hq | hq
  ·obtain⟨f1,f2,f3,f4,f5⟩:=F2 n q ⟨_,hn⟩ hq;exact⟨f2,f3,fun p hp _=>f4 p hp⟩
  ·exact⟨s.lt hl hq,(s.blk n q hl hq).2,fun p hp hpn hpq=>hpn (s.inj p n q hp hl hpq hq)⟩
 have hE:Ext Z (fun q=>Z q∨S q) w w:=⟨fun _ h => .inl h,fun _ _=>rfl⟩;have hrg:∀ q,isReg (updO ob n none) q→q≠n∧isReg ob q:=fun q h=>by
  have:=hlv q h.live;rcases N0 h with ⟨_,r,h⟩ | ⟨_,h⟩
  ·cases h
  ·exact⟨this.1,h⟩
 have F':Foot B.w0.heap.size B.own (updO ob n none) σ (fun q=>Z q∨S q) w:=by
  refine⟨Y,fun q r hq => ?_,fun q b hq hy => ?_⟩
  ·have hqn:=(hrg q ⟨r,hq⟩).1;exact r.move hE (fun _ _=>rfl) (fun _ _=>rfl) (F1 q r (by simpa [updO,hqn] using hq))
  ·obtain⟨g1,g2⟩:=hrg q hq;obtain⟨f1,f2,f3,f4,f5⟩:=F2 q b g2 hy;refine⟨fun h => ?_,f2,f3,fun p hp=>f4 p (hlv p hp).2,fun p hp=>f5 p (hrg p hp).2⟩;rcases h with h | h | h
   ·exact f1 h
   ·exact g1 (f5 n ⟨_,hn⟩ h).symm
   ·exact f4 n hl h
 refine⟨_,s.settleS hl hS F',⟨hE,fun _ h=>A3f h,fun m _ h=>⟨(hlv m h).2,rfl⟩,fun _ _ _ _ _=>rfl⟩,fun off len cs hr hle => ?_⟩;obtain⟨_,hr⟩:=hr;obtain⟨ad,c,hc,k1,k2,k3⟩:=hr hl;have hlen:((es.drop off).take len).length=len:=by simp;omega
 have hL:=h6.toL (Z':=fun q=>Z q∨S q) (e2:=e2) hE fun i x h a1 a2=>⟨(h7 i x h a1 a2 (by simp)).1,fun b hb => .inr (.inl ((h7 i x h a1 a2 (by simp)).2 b hb))⟩;rcases k3 with ⟨m1,m2,m3,m4⟩ | ⟨b,e',hb,ha,hsh,h00⟩
 ·have:es=[]:=h5 m1;subst this;have:len=0:=by simp at hle;omega
  subst this;exact⟨ad,c,by simpa using hc,by simp,k2,.inl (by simp)⟩
 ·refine⟨ad,c,by rw [hc,hlen],by rw [hlen];exact k1,k2,?_⟩
  by_cases hc0:c=0
  ·left;have hl0:len=0:=by omega
   subst hl0;simp
  ·right;obtain⟨cap,cur,q1,q3,q7⟩:∃ cap cur,v = .slice (some ⟨b,0,none⟩) es.length cap∧w.heap[b]? = some (.cells cur e (0,0))∧cur.toList.take (es.length*sz)=xs:=by
    rcases h3.2 with ⟨g,_⟩ | ⟨g,cap,cur,k1,_,k3,_,_,_,k7⟩
    ·rw [g,hb] at h4;simp [Value.ownBlock] at h4
    ·have:g=b:=by rw [k1,hb] at h4;simpa [Value.ownBlock] using h4
     subst this;exact⟨cap,cur,k1,k3,k7⟩
   have hat:cellsAt w b 0 xs:=fun j u hj=>by
    rw [Nat.zero_add,cell_of_row w b j cur e (0,0) q3];rw [← q7,List.getElem?_take] at hj;split at hj
    ·simpa using hj
    ·cases hj
   have hEs:=D.repE_of_repL es b 0 xs hL h2 hat;have hE2:=D.repE_take _ b (0+off*sz) len (D.repE_drop es b 0 off hEs);rw [Nat.zero_add] at hE2;exact⟨b,off*sz,ha.resolve_left hc0,.inr (.inr hb),fun q hq=>h2 q (List.mem_of_mem_drop (List.mem_of_mem_take hq)),hE2⟩
theorem Mat.freezeG {E Ts:EL} {O Bs:OL} {n e sz j e2 sz2:Nat} {es:List D} (hn:look O n=some (some (.reg (nrow e sz j e2 sz2 es none)))) (hT:TwT (FrzL n sz es) E Ts) (hBs:TwB (FrzL n sz es) ((n,none) :: O) Bs) :
  Mat B E O (Ts++E) (Bs++(n,none) :: O):=fun a w σ Z s=>by
 obtain⟨Z',s1,mv,hl⟩:=s.settleG hn;rw [← A5o] at s1 mv;refine⟨_,_,s.turn s1 mv ⟨?_,?_⟩ (fun q t x h=>⟨?_,rfl⟩) hT hBs⟩
 ·rintro x y ⟨off,len,fs,rfl,rfl,h1,h2⟩;exact⟨rfl,rfl,by simp,rfl,rfl⟩
 ·rintro x y ⟨off,len,fs,rfl,rfl,h1,h2⟩ cs hr;subst h2;exact hl off len cs hr h1
 ·rw [G4] at h;split at h
  ·simp at h
  ·exact h
-- calls that only look: whatever they look at is settled for the time of the call
inductive Pk (no:List (Nat×Ob)):V→V→Prop
 | d (x:D):Pk no (.d x) (.d x)
 | co {x:V} {y:D}:Co x y→Pk no x (.d y)
 | row {n e sz len:Nat} {es:List D}:(n,.row e sz es)∈no→len=es.length→Pk no (.sref n sz 0 len) (.d (.list sz es))
 | reg {n e sz j e2 sz2 len:Nat} {es:List D}:(n,.reg (nrow e sz j e2 sz2 es none))∈no→len=es.length→Pk no (.sref n sz 0 len) (.d (.list sz es))
 | box {n t:Nat} {c:V} {y:D}:(n,.box t c)∈no→Co c y→Pk no (.ptr n 0 []) (.dptr y)
 | func {f:FuncId} {cs cs':List V}:cs.length=cs'.length→(∀ (i:Nat) (c c':V),cs[i]? = some c→cs'[i]? = some c'→Pk no c c')→Pk no (.func f cs) (.func f cs')
theorem Pk.rep {env:Env} {ob:Obs} {a:Act} {w:World} {σ:Nat→Option Nat} {Z:Nat→Prop} (s:Sim B env ob a w σ Z) {no:List (Nat×Ob)} (hno:∀ p∈no,ob p.1=some (some p.2)) {x y:V} (h:Pk no x y) :
  ∀ {cs:List Value},V.rep ob σ Z w x cs→V.rep (fun _=>none) (fun _=>none) (fun b=>b<w.heap.size) w y cs:=by
 have hE:Ext Z (fun b=>b<w.heap.size) w w:=⟨fun b h=>s.zlt b h,fun _ _=>rfl⟩;induction h with
 | d x=>intro cs hr;exact D.rep_ext hE x cs hr
 | co h=>intro cs hr;exact D.rep_ext hE _ cs (h.rep hr)
 | @row n e sz len es hm hlen =>
  intro cs hr;subst hlen;have hob:=hno _ hm;obtain⟨Z',s1,mv,hl⟩:=s.settle hob;have:=hl 0 es.length cs hr (by omega);simp only [List.drop_zero,List.take_length] at this;exact D.rep_ext ⟨fun b h=>s1.zlt b h,fun _ _=>rfl⟩ _ cs this
 | @reg n e sz j e2 sz2 len es hm hlen =>
  intro cs hr;subst hlen;have hob:=hno _ hm;obtain⟨Z',s1,mv,hl⟩:=s.settleG hob;have:=hl 0 es.length cs hr (by omega);simp only [List.drop_zero,List.take_length] at this;exact D.rep_ext ⟨fun b h=>s1.zlt b h,fun _ _=>rfl⟩ _ cs this
 | @box n t c y hm hco =>
  intro cs hr;have hob:=hno _ hm;obtain⟨_,hr⟩:=hr;obtain⟨b,hb,hc⟩:=hr ⟨_,hob⟩;obtain⟨b',cells,k1,k2,k3,k4,k5⟩:=s.obj n _ hob;have:b'=b:=Option.some.inj (k1.symm.trans hb);subst this;exact⟨b',0,cells.toList,hc,s.lt ⟨_,hob⟩ hb,fun q u hq=>by rw [Nat.zero_add,cell_of_row w b' q cells t (0,0) k2];simpa using hq,D.rep_ext hE _ _ (hco.rep k5)⟩
 | @func f cs cs' hlen hpk ih =>
  intro vs hr;obtain⟨cvs,h1,h2⟩:=hr;refine⟨cvs,h1,?_⟩;clear h1 hpk;induction cs generalizing cs' cvs with
  | nil =>
   cases cs' with
   | nil=>exact h2
   | cons _ _=>simp at hlen
  | cons c cs ih2 =>
   cases cs' with
   | nil=>simp at hlen
   | cons c' cs' =>
    obtain⟨u,rest,e1,e2,e3,e4⟩:=h2;exact⟨u,rest,e1,e2,ih 0 c c' rfl rfl e3,ih2 (by simpa using hlen) (fun i a b ha hb {_} hr=>ih (i+1) a b (by simpa using ha) (by simpa using hb) hr) rest e4⟩
inductive PkL (no:List (Nat×Ob)):List V→List V→Prop
 | nil:PkL no [] []
 | cons {x y:V} {xs ys:List V}:Pk no x y→PkL no xs ys→PkL no (x :: xs) (y :: ys)
theorem Pk.fn {no:List (Nat×Ob)} {f:FuncId} {cs cs':List V} (h:PkL no cs cs'):Pk no (.func f cs) (.func f cs'):=by
 have:cs.length=cs'.length∧∀ (i:Nat) (c c':V),cs[i]? = some c→cs'[i]? = some c'→Pk no c c':=by
  induction h with
  | nil=>exact⟨rfl,fun i c c' h=>by simp at h⟩
  | cons hx _ ih =>
   refine⟨by simp [ih.1],fun i c c' a b => ?_⟩;cases i with
   | zero=>simp at a b;subst a;subst b;exact hx
   | succ i=>exact ih.2 i c c' (by simpa using a) (by simpa using b)
 exact .func this.1 this.2
theorem Pk.agg {no:List (Nat×Ob)} {x y:V} (h:Pk no x y):x.isAgg=y.isAgg:=by
 cases h with
 | co h=>exact h.agg
 | _=>rfl
theorem Pk.repV {env:Env} {ob:Obs} {a:Act} {w:World} {σ:Nat→Option Nat} {Z:Nat→Prop} (s:Sim B env ob a w σ Z) {no:List (Nat×Ob)} (hno:∀ p∈no,ob p.1=some (some p.2)) {x y:V} (h:Pk no x y) {v:Value} (hr:RepV ob σ Z w v x) :
  RepV (fun _=>none) (fun _=>none) (fun b=>b<w.heap.size) w v y:=by
 unfold RepV at *;rw [← h.agg];split at hr
 ·rename_i hx;rw [if_pos hx];obtain⟨cs,h1,h2⟩:=hr;exact⟨cs,h1,h.rep s hno h2⟩
 ·rename_i hx;rw [if_neg hx];refine⟨h.rep s hno hr.1,?_⟩;rcases hr.2 with e | e
  ·subst e;cases h;rename_i hc;cases hc
  ·exact .inr e
theorem PkL.rep {env:Env} {ob:Obs} {a:Act} {w:World} {σ:Nat→Option Nat} {Z:Nat→Prop} (s:Sim B env ob a w σ Z) {no:List (Nat×Ob)} (hno:∀ p∈no,ob p.1=some (some p.2)):∀ {xs ys:List V} {vs:List Value},PkL no xs ys→RepVs ob σ Z w vs xs →
  RepVs (fun _=>none) (fun _=>none) (fun b=>b<w.heap.size) w vs ys
 | _,_,[],.nil,_=>trivial
 | _,_,_ :: _,.cons h hs,hr=>⟨h.repV s hno hr.1,PkL.rep s hno hs hr.2⟩
 | _,_,_ :: _,.nil,hr=>hr.elim
 | _,_,[],.cons _ _,hr=>hr.elim
def scalar:D→Bool
 | .bool _=>true
 | .int .. => true
 | _=>false
section
variable {d:Nat} {ty:TypeId} {pos:String} {af:Array Edge} {nt:List (Nat×V)}
theorem OpJ.peek {f:FuncId} {xs:List Operand} {ts:Array TypeId} {args0 args:List V} {r:D} (no:List (Nat×Ob)) (hfn:FnOk P f) (hac:AC P f args [] (.d r) []) (hr:scalar r=true) (hN:d<B.N) (hnt:args0.all noTupB=true) (hx:OpdL xs args0 nt) (hp:PkL no args0 args) :
  OpJ P B ops ⟨some d,.call { callee:=.value (.func f),args:=xs.toArray,argTypes:=ts },ty,pos,af,none⟩ { nt,no,wt:=[(d,.d r)] }:=by
 intro Q env ob a w σ Z K s hn hK;have hargs:=hp.rep s hn.2.1 (hx.rep s hn.1 hnt);have pre:Pre (obOf []) w (fun _=>none) (fun b=>b<w.heap.size) args (xs.map a.eval):=⟨hargs,fun n o h=>by simp [obOf,look] at h,fun n m b ⟨o,h⟩=>by simp [obOf,look] at h,fun n b ⟨o,h⟩=>by simp [obOf,look] at h,fun b h=>h⟩;have hrun:(execOp a.eval ⟨some d,.call { callee:=.value (.func f),args:=xs.toArray,argTypes:=ts },ty,pos,af,none⟩).run P w = .ok (.enter f (xs.map a.eval).toArray) w:=by
  simp only [execOp,resolve,Act.eval,Deferred.ofValue,Sem.run_bind,Sem.run_pure,Result.andThen_ok,invoke,List.map_toArray,Array.empty_append,Array.append_empty,hfn.run]
 rw [if_pos (by simp [Region.wanted])];unfold Oper.wp;rw [hrun,Oper.upon_enter];refine(hac w _ _ _ pre).mono fun e w' ⟨cv,σ',Z',he,hp⟩ => ?_;subst he;have hb:∀ k,k<w.heap.size→w'.heap[k]? = w.heap[k]? :=fun k hk=>hp.block k hk fun⟨m,⟨o,ho⟩,_⟩=>by simp [obOf,look] at ho
 have s':=s.grow hp.os hp.tape hp.output hp.size hb (fun _ h=>h) (fun _ h => .inl h);refine hK _ _ σ Z ?_;rw [Q2 _ rfl,G9 _ rfl];refine s'.put hN ?_;have hres:=hp.res;cases r with
 | bool b=>rw [Q3 hres];exact U3 b
 | int k n=>rw [L4 hres];exact Y4 k n
 | _=>simp [scalar] at hr
end
end Go.Vc

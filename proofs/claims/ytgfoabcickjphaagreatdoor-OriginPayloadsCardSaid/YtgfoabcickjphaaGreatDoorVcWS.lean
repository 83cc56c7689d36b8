/- slices.Clone of a row that is still written. -/
import Derived.Test.YtgfoabcickjphaaGreatDoorVcW
import Derived.Test.YtgfoabcickjphaaGreatDoorVcG
namespace Go.Vc
open Go Go.Proofs Go.RowKit
variable {P:Program}
theorem AC.cloneS {f e sz bytes:Nat} (h:CloneOk P f e sz bytes) {es:List D} {len:Nat} (hlen:len=es.length) (hb:es.length*bytes≤140737488355328) :
  AC P f [.sref 0 sz 0 len] [(0,.row e sz es)] (.sref 900000 sz 0 len) [(0,some (.row e sz es)),(900000,some (.row e sz es))]:=by
 subst hlen
 intro w σ Z cargs pre
 have hB0:obOf [(0,Ob.row e sz es)] 0=some (some (.row e sz es)):=rfl
 have hlv:live (obOf [(0,Ob.row e sz es)]) 0:=⟨_,hB0⟩
 have hob:=pre.obj 0 _ hB0
 have hsz:∀ x∈es,x.sz=sz:=hob.2.1
 have hone:∀ n o,look [(0,some (Ob.row e sz es)),(900000,some (Ob.row e sz es))] n=some (some o)→(n=0∨n=900000)∧o = .row e sz es:=fun n o hq=>by
  rw [look_cons] at hq
  split at hq
  ·rename_i hn;cases hq;exact⟨.inl hn.symm,rfl⟩
  ·rw [look_cons] at hq
   split at hq
   ·rename_i hn;cases hq;exact⟨.inr hn.symm,rfl⟩
   ·simp [look] at hq
 have hlvn:live (look [(0,some (Ob.row e sz es)),(900000,some (Ob.row e sz es))]) 900000:=⟨_,rfl⟩
 match cargs,pre.args with
 | [v],⟨ha,_⟩ =>
  have hr:V.rep (obOf [(0,Ob.row e sz es)]) σ Z w (.sref 0 sz 0 es.length) [v]:=And.left ha
  obtain⟨ad,c,hv,hc1,hc2,hd⟩:=hr.2 hlv
  have hv:v = .slice ad es.length c:=by simpa using hv
  subst hv
  have blk:∀ {w':World} {v':Value} {n:Nat} {xs:List Value},w'.ownsRow w.heap.size e sz v' n xs→v'.ownBlock=none∨∃ g,v'.ownBlock=some g∧w.heap.size≤g∧g<w'.heap.size:=fun ho=>by
   rcases ho.2 with ⟨h1,_⟩ | ⟨g,cap,cur,h1,h2,h3,_⟩
   ·left;rw [h1];rfl
   ·right;exact⟨g,by rw [h1];rfl,h2,(Array.getElem?_eq_some_iff.1 h3).1⟩
  have key:Calls P f #[.slice ad es.length c] w fun ex w'=>∃ v' xs,ex = .returned v'∧w'.ownsRow 0 e sz v' es.length xs∧D.repL Z w es xs∧Below w.heap.size w w'∧(v'.ownBlock=none∨∃ g,v'.ownBlock=some g∧w.heap.size≤g∧g<w'.heap.size):=by
   rcases hd with ⟨_,k2,_,k4⟩ | ⟨b,e',hb',_,_,hab⟩
   ·have hn:es=[]:=List.eq_nil_of_length_eq_zero (by omega)
    subst hn;subst k2
    refine(h.nil 0 c w).mono fun ex w' ⟨g1,g2⟩ => ?_
    subst g2
    exact⟨_,[],g1,World.ownsRow_nil _ 0 e sz,rfl,Below.refl _ _,.inl rfl⟩
   ·have had:=hab rfl
    subst had
    by_cases hn:es=[]
    ·subst hn
     refine(h.zero _ c w).mono fun ex w' ⟨v',g1,g2,g3⟩ => ?_
     exact⟨v',[],g1,owns_low g2,rfl,g3,blk g2⟩
    ·obtain⟨cur,cap,xs,m1,m2,m3,m4,m5,m6,m7⟩:=Ob.row_cells hob hb'
     refine(h.full b 0 es.length c xs w m6 (by simpa [maxLen] using Nat.le_trans hc1 hc2) hb (fun j u hj => ?_) (D.repL_one es xs m5)).mono fun ex w' ⟨v',g1,g2,g3⟩ => ?_
     ·rw [Nat.zero_add,cell_of_row w b j cur e (0,0) m1,← Array.getElem?_toList]
      rw [← m7,List.getElem?_take] at hj
      split at hj
      ·exact hj
      ·cases hj
     ·exact⟨v',xs,g1,owns_low g2,m5,g3,blk g2⟩
  refine key.mono fun ex w' ⟨v',xs,g1,g2,g3,g4,g5⟩ => ?_
  subst g1
  have hext:Ext Z Z w w':=⟨fun _ h=>h,fun b hq=>g4.block b (pre.zlt b hq)⟩
  have hlt:∀ b,σ 0=some b→b<w.heap.size:=fun b hb=>Ob.lt hob hb
  refine⟨_,fun n=>if n=900000 then v'.ownBlock else σ n,Z,rfl,⟨sref_of_owns hlvn g2 (by simp),fun n o hn => ?_,fun n m b hn hm h1 h2 => ?_,fun n _ hl _ => ?_,fun n b _ hl _ hb => ?_,fun n b hn hq => ?_,fun b hq=>Nat.lt_of_lt_of_le (pre.zlt b hq) g4.size,fun _ h=>h,fun _ h => .inl h,g4.os,g4.tape,g4.output,g4.size,fun k hk _=>g4.block k hk⟩⟩
  ·obtain⟨hzz,hoo⟩:=hone n o hn
   subst hoo
   clear hn
   rcases hzz with rfl | rfl
   ·obtain⟨h0,h00,v0,xs0,k1,k2,k3,k4⟩:=hob
    refine⟨h0,h00,v0,xs0,?_,D.repL_ext hext es xs0 k2,by simpa using k3,fun hn=>k4 (by simpa using hn)⟩
    refine k1.kept (w':=w') (row:=none) ⟨g4.os,g4.tape,g4.output,g4.size,fun k hk _=>g4.block k hk⟩ ?_
    cases v0.ownBlock<;>simp
   ·exact⟨h.pos,hsz,v',xs,g2,D.repL_ext hext es xs g3,by simp,fun hn=>by
     simp only [if_true] at hn
     rcases g2.2 with ⟨_,h0⟩ | ⟨g,cap,cur,h1,_⟩
     ·exact List.eq_nil_of_length_eq_zero h0
     ·rw [h1] at hn;simp [Value.ownBlock] at hn⟩
  ·obtain⟨o,ho⟩:=hn;obtain⟨o',ho'⟩:=hm
   have a1:=(hone n o ho).1
   have a2:=(hone m o' ho').1
   have far:∀ q,σ 0=some q→v'.ownBlock=some q→False:=fun q e1 e2=>by
    have:=hlt q e1
    rcases g5 with h5 | ⟨g,h5,h6,h7⟩
    ·rw [h5] at e2;cases e2
    ·have:g=q:=Option.some.inj (h5.symm.trans e2)
     omega
   rcases a1 with rfl | rfl<;>rcases a2 with rfl | rfl
   ·rfl
   ·simp at h1 h2;exact(far b h1 h2).elim
   ·simp at h1 h2;exact(far b h2 h1).elim
   ·rfl
  ·obtain⟨o,ho⟩:=hl
   have:n=0:=by
    simp only [obOf,Option.map_eq_some_iff] at ho
    obtain⟨o',h1,_⟩:=ho
    rw [look_cons] at h1
    split at h1
    ·rename_i h;exact h.symm
    ·simp [look] at h1
   subst this
   simp
  ·obtain⟨o,ho⟩:=hl
   have:n=0:=by
    simp only [obOf,Option.map_eq_some_iff] at ho
    obtain⟨o',h1,_⟩:=ho
    rw [look_cons] at h1
    split at h1
    ·rename_i h;exact h.symm
    ·simp [look] at h1
   subst this
   simp only [World.shape?,g4.block b (hlt b hb)]
  ·obtain⟨o,ho⟩:=hn
   rcases(hone n o ho).1 with rfl | rfl
   ·have hq':σ 0=some b:=by simpa using hq
    exact⟨pre.blk 0 b hlv hq',.inr ⟨0,hlv,hq'⟩⟩
   ·simp only [if_true] at hq
    rcases g5 with h5 | ⟨g,h5,h6,h7⟩
    ·rw [h5] at hq;cases hq
    ·have:g=b:=Option.some.inj (h5.symm.trans hq)
     subst this
     exact⟨fun hz=>by have:=pre.zlt g hz;omega,.inl h6⟩
section
variable {B:Base} {ops:Array Oper} {d:Nat} {ty:TypeId} {pos:String} {af:Array Edge}
end
end Go.Vc

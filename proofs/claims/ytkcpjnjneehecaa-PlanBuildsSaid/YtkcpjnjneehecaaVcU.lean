/- Functions of the library that write a row in place, met by a contract that is given from outside. -/
import Derived.Test.YtkcpjnjneehecaaVcT
import Derived.Sort.Grow
import Derived.Sort.Row
namespace Go.Vc
open Go
variable {P:Program}
structure RowDone (w w':World) (b:Nat):Prop where
 os:w'.os=w.os
 tape:w'.tape=w.tape
 output:w'.output=w.output
 size:w.heap.size≤w'.heap.size
 block:∀ k,k<w.heap.size→k≠b→w'.heap[k]? = w.heap[k]?
theorem eI_repL {Z:Nat→Prop} {w:World} {k:IntKind}:∀ (xs:List Int),D.repL Z w (xs.map (eI k)) (xs.map (Value.int k))
 | []=>rfl
 | x :: xs=>⟨[.int k x],xs.map (Value.int k),rfl,rfl,eI_repL xs⟩
theorem eI_repL_eq {Z:Nat→Prop} {w:World} {k:IntKind}:∀ {xs:List Int} {cs:List Value},D.repL Z w (xs.map (eI k)) cs→cs=xs.map (Value.int k)
 | [],_,h=>h
 | x :: xs,cs,h=>by
  obtain⟨c1,c2,h1,h2,h3⟩:=h
  have:c1=[.int k x]:=h2
  rw [h1,this,eI_repL_eq h3]
  rfl
theorem AC.rowI {f:FuncId} {e:TypeId} {k:IntKind} (xs ys:List Int) (hlen:ys.length=xs.length)
  (h1:xs≠[]→∀ (b cap:Nat) (cur:Array Value) (w:World),w.heap[b]? = some (.cells cur e (0,0))→cur.toList.take xs.length=xs.map (Value.int k)→Calls P f #[.slice (some ⟨b,0,none⟩) xs.length cap] w fun ex w'=>ex = .returned (.tuple #[]) ∧
   RowDone w w' b∧∃ cur':Array Value,w'.heap[b]? = some (.cells cur' e (0,0))∧cur'.size=cur.size∧cur'.toList.take xs.length=ys.map (Value.int k))
  (h0:xs=[]→∀ (p:Option Addr) (cap:Nat) (w:World),Calls P f #[.slice p 0 cap] w fun ex w'=>ex = .returned (.tuple #[])∧w'=w) :
  AC P f [.sref 0 1 0 xs.length] [(0,.row e 1 (xs.map (eI k)))] (.tup []) [(0,some (.row e 1 (ys.map (eI k))))]:=by
 intro w σ Z cargs pre
 have hlv:live (obOf [(0,Ob.row e 1 (xs.map (eI k)))]) 0:=⟨_,rfl⟩
 have hob:=pre.obj 0 _ (rfl:obOf [(0,Ob.row e 1 (xs.map (eI k)))] 0=some (some (.row e 1 (xs.map (eI k)))))
 have hn0:∀ n o,look [(0,some (Ob.row e 1 (ys.map (eI k))))] n=some (some o)→n=0∧o = .row e 1 (ys.map (eI k)):=fun n o h=>by
  rw [look_cons] at h
  split at h
  ·rename_i hn;cases h;exact⟨hn.symm,rfl⟩
  ·simp [look] at h
 match cargs,pre.args with
 | [v],⟨ha,_⟩ =>
  have hr:V.rep (obOf [(0,Ob.row e 1 (xs.map (eI k)))]) σ Z w (.sref 0 1 0 xs.length) [v]:=And.left ha
  obtain⟨_,hr⟩:=hr
  obtain⟨ad,c,hv,hc1,hc2,hd⟩:=hr hlv
  have hv:v = .slice ad xs.length c:=by simpa using hv
  subst hv
  by_cases hx:xs=[]
  ·subst hx
   have hy:ys=[]:=List.eq_nil_of_length_eq_zero (by simpa using hlen)
   subst hy
   refine(h0 rfl ad c w).mono fun ex w' ⟨he,hw⟩ => ?_
   subst he;subst hw
   refine⟨_,σ,Z,rfl,⟨⟨[],rfl,trivial⟩,fun n o hn => ?_,fun n m b hn hm _ _ => ?_,fun _ _ _ _=>rfl,fun _ _ _ _ _ _=>rfl,fun n b hn hb => ?_,pre.zlt,fun _ h=>h,fun _ h => .inl h,rfl,rfl,rfl,Nat.le_refl _,fun _ _ _=>rfl⟩⟩
   ·obtain⟨rfl,rfl⟩:=hn0 n o hn
    obtain⟨g1,g2,v,xs,g3,g4,g5,g6⟩:=hob
    exact⟨g1,g2,v,xs,g3,g4,g5,g6⟩
   ·obtain⟨o,ho⟩:=hn;obtain⟨o',ho'⟩:=hm
    rw [(hn0 n o ho).1,(hn0 m o' ho').1]
   ·obtain⟨o,ho⟩:=hn
    obtain⟨rfl,_⟩:=hn0 n o ho
    exact⟨pre.blk 0 b hlv hb,.inr ⟨0,hlv,hb⟩⟩
  ·have hpos:0<xs.length:=List.length_pos_iff.2 hx
   rcases hd with ⟨_,_,_,k4⟩ | ⟨b,e',hb,hab,_,_⟩
   ·omega
   ·have had:ad=some ⟨b,0,none⟩:=by
     rcases hab with h | h
     ·omega
     ·simpa using h
    subst had
    obtain⟨cur,cap,cs,m1,m2,m3,m4,m5,m6,m7⟩:=Ob.row_cells hob hb
    rw [List.length_map] at m3 m6 m7
    rw [eI_repL_eq m5] at m7
    rw [Nat.mul_one] at m7 m2
    have hblt:b<w.heap.size:=(Array.getElem?_eq_some_iff.1 m1).1
    refine(h1 hx b c cur w m1 m7).mono fun ex w' ⟨he,hdone,cur',k1,k2,k3⟩ => ?_
    subst he
    have hz:∀ q,Z q→q≠b:=fun q hq e=>pre.blk 0 b hlv hb (e ▸ hq)
    refine⟨_,σ,Z,rfl,⟨⟨[],rfl,trivial⟩,fun n o hn => ?_,fun n m b hn hm _ _ => ?_,fun _ _ _ _=>rfl,fun n q _ hl _ hq => ?_,fun n q hn hq => ?_,fun q hq=>Nat.lt_of_lt_of_le (pre.zlt q hq) hdone.size,fun _ h=>h,fun _ h => .inl h,hdone.os,hdone.tape,hdone.output,hdone.size,fun q hq hno => ?_⟩⟩
    ·obtain⟨rfl,rfl⟩:=hn0 n o hn
     refine⟨Nat.one_pos,fun y hy => ?_,.slice (some ⟨b,0,none⟩) (ys.map (eI k)).length cap,ys.map (Value.int k),⟨by simp,.inr ⟨b,cap,cur',rfl,Nat.zero_le _,k1,by simp;omega,by simpa [maxLen] using m4,by omega,by simp [hlen,k3]⟩⟩,eI_repL ys,?_,fun h => ?_⟩
     ·obtain⟨x,_,rfl⟩:=List.mem_map.1 hy;rfl
     ·exact hb.symm
     ·rw [hb] at h;cases h
    ·obtain⟨o,ho⟩:=hn;obtain⟨o',ho'⟩:=hm
     rw [(hn0 n o ho).1,(hn0 m o' ho').1]
    ·obtain⟨o,ho⟩:=hl
     have hn:n=0:=by
      simp only [obOf,Option.map_eq_some_iff] at ho
      obtain⟨o',h1,_⟩:=ho
      rw [look_cons] at h1
      split at h1
      ·rename_i h;exact h.symm
      ·simp [look] at h1
     subst hn
     have:q=b:=Option.some.inj (hq.symm.trans hb)
     subst this
     simp only [World.shape?,m1,k1,k2]
    ·obtain⟨o,ho⟩:=hn
     obtain⟨rfl,_⟩:=hn0 n o ho
     exact⟨pre.blk 0 q hlv hq,.inr ⟨0,hlv,hq⟩⟩
    ·exact hdone.block q hq fun e=>hno ⟨0,hlv,e ▸ hb⟩
theorem sorted_done {w:World} {b n:Nat} {os:Array Obj} {e:TypeId} {k:IntKind} {cur:Array Value} {xs ys:List Int} (hw:w.heap[b]? = some (.cells cur e (0,0))) (ht:cur.toList.take xs.length=xs.map (Value.int k)) (hlen:ys.length=xs.length) :
  let w':=Sort.grow (Sort.putRow (Value.int k) (Sort.ahead w n) b 0 ys.toArray) os
  RowDone w w' b∧∃ cur':Array Value,w'.heap[b]? = some (.cells cur' e (0,0))∧cur'.size=cur.size∧cur'.toList.take xs.length=ys.map (Value.int k):=by
 intro w'
 have hb:b<w.heap.size:=(Array.getElem?_eq_some_iff.1 hw).1
 have hcl:xs.length≤cur.size:=by
  have:=congrArg List.length ht
  simp at this
  omega
 have hheap:w'.heap=w.heap.modify b (Sort.onCells (Sort.putCells (Value.int k) 0 ys.toArray))++os:=rfl
 refine⟨⟨rfl,rfl,rfl,by rw [hheap];simp,fun q hq hne => ?_⟩,Sort.putCells (Value.int k) 0 ys.toArray cur,?_,by simp [Sort.putCells],?_⟩
 ·rw [hheap,Array.getElem?_append_left (by simpa using hq),Array.getElem?_modify,if_neg (Ne.symm hne)]
 ·rw [hheap,Array.getElem?_append_left (by simpa using hb),Array.getElem?_modify,if_pos rfl,hw];rfl
 ·refine List.ext_getElem? fun j => ?_
  rw [List.getElem?_take]
  by_cases hj:j<xs.length
  ·rw [if_pos hj,List.getElem?_map,Array.getElem?_toList,Sort.putCells,Array.getElem?_mapIdx,Array.getElem?_eq_getElem (by omega),Option.map_some,if_pos ⟨Nat.zero_le _,by simp;omega⟩]
   rw [List.getElem?_eq_getElem (by omega:j<ys.length)]
   simp [getElem!_pos,hlen,hj]
  ·rw [if_neg hj,List.getElem?_eq_none (by simp;omega)]
theorem holds_of_cells {w:World} {b:Nat} {e:TypeId} {k:IntKind} {cur:Array Value} {xs:List Int} (hw:w.heap[b]? = some (.cells cur e (0,0))) (ht:cur.toList.take xs.length=xs.map (Value.int k)):Sort.Holds (Value.int k) w b 0 xs.toArray:=fun j hj=>by
 have hj':j<xs.length:=by simpa using hj
 refine⟨?_,?_⟩
 ·rw [Nat.zero_add,cell_of_row w b j cur e (0,0) hw]
  have:=congrArg (fun l=>l[j]?) ht
  simp only [List.getElem?_take,if_pos hj',List.getElem?_map,List.getElem?_eq_getElem hj',Option.map_some] at this
  rw [← Array.getElem?_toList,this]
  simp [hj']
 ·simp [World.frozen?,hw]
end Go.Vc

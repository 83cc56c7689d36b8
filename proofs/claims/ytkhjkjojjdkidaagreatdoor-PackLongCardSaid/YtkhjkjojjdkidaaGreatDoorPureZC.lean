/- Groups, what is packed, decks, the example, in plain Lean. -/
import Derived.Test.YtkhjkjojjdkidaaGreatDoorPureZB
namespace Go.Proofs.YtkhjkjojjdkidaaGreatDoor
open Go Go.Vc
structure gd (c:B8):Prop where
 val:pV c.fPrefix
 rt:c.fHas=true→c.fRoute.fPrefix=c.fPrefix
 att:c.fHas=true→∃ n x m,dOk n x m∧c.fRoute.fAttrs=mkD n x m∧bA x [c.fPrefix]=true
structure Chs (l:List B8):Prop where
 all:∀ c∈l,gd c
 asc:∀ (i:Nat) (h:i+1<l.length),pLt (l[i]'(by omega)).fPrefix l[i+1].fPrefix
 len:l.length≤1000
theorem B51 {c:B8} (h:gd c):A2p c=some true:=by
 unfold A2p
 refine L0 (A9t h.val.addr.1) ?_
 rw [Q2.2 h.val,if_pos rfl]
 cases hc:c.fHas with
 | false=>rfl
 | true =>
  obtain⟨n,x,m,h1,h2,h3⟩:=h.att hc
  rw [if_neg (by simp)]
  have hp:peq c.fRoute.fPrefix c.fPrefix=true:=A82.2 (h.rt hc)
  refine(if_pos hp).trans ?_
  rw [h2]
  refine L0 (B6e (by simp)) ?_
  refine L0 (B33 h1 (by simpa using h.val.addr.1) (by simp) (by simp)) ?_
  rw [h3]
theorem B67 {c:B8} (h:gd c):A1x c=some true:=by
 unfold A1x
 refine L0 (A9s h.val.addr.1) ?_
 rw [Q2.2 h.val,if_neg (by simp)]
 cases hc:c.fHas with
 | false=>rfl
 | true =>
  obtain⟨n,x,m,h1,h2,h3⟩:=h.att hc
  simp only [jn,Bool.not_true,Bool.false_eq_true,if_false]
  have hp:peq c.fRoute.fPrefix c.fPrefix=true:=A82.2 (h.rt hc)
  refine(if_pos hp).trans ?_
  rw [h2]
  refine L0 (B1m h1 (l:=[c.fPrefix]) (by simpa using h.val.addr.1) (by simp) (by simp)) ?_
  rw [h3]
def isD (a:C8):Prop:=∃ n x m,dOk n x m∧a=mkD n x m
theorem B3z {a b:C8} (ha:isD a) (hb:isD b):A0d a b=some (aD a b):=by
 obtain⟨n,x,m,_,rfl⟩:=ha
 obtain⟨n',x',m',_,rfl⟩:=hb
 exact B60
theorem B1p {a b:C8} (ha:isD a) (hb:isD b):G6 a b=some (aD a b):=by
 obtain⟨n,x,m,_,rfl⟩:=ha
 obtain⟨n',x',m',_,rfl⟩:=hb
 exact B6r
def uAa (a:C8) (l:List A2):A6:=A6.mk [] a l
theorem filledD {a:C8} (h:isD a) {l:List A2} (hl:∀ p∈l,aR p.fAddr) (hn:l.length≤90000):P8 (C2.mk a l) true=some ((chunks (bA a.fNext) l).map (uAa a)):=by
 obtain⟨n,x,m,h,rfl⟩:=h
 exact filledA h hl hn
def goneL (l:List B8):List A2:=(l.filter fun c => !c.fHas).map (·.fPrefix)
noncomputable def sel (a:C8) (l:List B8):List A2:=(l.filter fun c=>c.fHas&&aD c.fRoute.fAttrs a).map (·.fPrefix)
open Classical in
/-- attributes in the order in which they come -/
noncomputable def foS (A:List C8) (c:B8):List C8:=if c.fHas=true∧¬ c.fRoute.fAttrs∈A then A++[c.fRoute.fAttrs] else A
noncomputable def FO (l:List B8):List C8:=l.foldl foS []
theorem A3b (l:List B8) (c:B8):FO (l++[c])=foS (FO l) c:=by unfold FO;rw [List.foldl_append];rfl
theorem A4b (l:List B8) (c:B8):goneL (l++[c])=if c.fHas=true then goneL l else goneL l++[c.fPrefix]:=by
 unfold goneL
 rw [List.filter_append,List.map_append]
 cases h:c.fHas<;>simp [h]
theorem A98 (a:C8) (l:List B8) (c:B8):sel a (l++[c])=if (c.fHas&&aD c.fRoute.fAttrs a)=true then sel a l++[c.fPrefix] else sel a l:=by
 unfold sel
 rw [List.filter_append,List.map_append]
 cases h:(c.fHas&&aD c.fRoute.fAttrs a)<;>simp [h]
theorem A1j (l:List B8):(goneL l).length≤l.length:=by unfold goneL;rw [List.length_map];exact List.length_filter_le _ _
theorem A3c (a:C8) (l:List B8):(sel a l).length≤l.length:=by unfold sel;rw [List.length_map];exact List.length_filter_le _ _
theorem A9y {l:List B8} {p:A2} (h:p∈goneL l):∃ c∈l,c.fHas=false∧c.fPrefix=p:=by
 unfold goneL at h
 obtain⟨c,hc,rfl⟩:=List.mem_map.1 h
 rw [List.mem_filter] at hc
 exact⟨c,hc.1,by simpa using hc.2,rfl⟩
theorem B0g {a:C8} {l:List B8} {p:A2} (h:p∈sel a l):∃ c∈l,c.fHas=true∧c.fRoute.fAttrs=a∧c.fPrefix=p:=by
 unfold sel at h
 obtain⟨c,hc,rfl⟩:=List.mem_map.1 h
 rw [List.mem_filter,Bool.and_eq_true,A4a] at hc
 exact⟨c,hc.1,hc.2.1,hc.2.2,rfl⟩
theorem A99:∀ (l:List B8) (a:C8),a∈FO l↔∃ c∈l,c.fHas=true∧c.fRoute.fAttrs=a:=by
 refine A5b (fun a=>by simp [FO]) (fun l c ih a => ?_)
 rw [A3b]
 unfold foS
 split
 ·rename_i h
  rw [List.mem_append,ih a]
  simp only [List.mem_singleton,List.mem_append]
  constructor
  ·rintro(⟨x,hx,h1,h2⟩ | rfl)
   ·exact⟨x,.inl hx,h1,h2⟩
   ·exact⟨c,.inr rfl,h.1,rfl⟩
  ·rintro⟨x,hx | rfl,h1,h2⟩
   ·exact .inl ⟨x,hx,h1,h2⟩
   ·exact .inr h2.symm
 ·rename_i h
  rw [ih a]
  constructor
  ·rintro⟨x,hx,h1,h2⟩
   exact⟨x,List.mem_append_left _ hx,h1,h2⟩
  ·rintro⟨x,hx,h1,h2⟩
   rcases List.mem_append.1 hx with hx | hx
   ·exact⟨x,hx,h1,h2⟩
   ·cases List.mem_singleton.1 hx
    refine(ih a).1 ?_
    refine Classical.byContradiction fun hn=>h ⟨h1,?_⟩
    rw [h2];exact hn
theorem B52:∀ l:List B8,(FO l).Nodup:=by
 refine A5b (by simp [FO]) (fun l c ih => ?_)
 rw [A3b]
 unfold foS
 split
 ·rename_i h
  rw [List.nodup_append]
  exact⟨ih,by simp,fun a ha b hb e=>by cases List.mem_singleton.1 hb;subst e;exact h.2 ha⟩
 ·exact ih
theorem B0h (l:List B8):(FO l).length≤l.length:=by
 revert l
 refine A5b (by simp [FO]) (fun l c ih => ?_)
 rw [A3b]
 unfold foS
 split<;>simp<;>omega
theorem B35 {a:C8} {l:List B8} (h:a∉FO l):sel a l=[]:=by
 refine List.eq_nil_iff_forall_not_mem.2 fun p hp => ?_
 obtain⟨c,h1,h2,h3,_⟩:=B0g hp
 exact h ((A99 l a).2 ⟨c,h1,h2,h3⟩)
noncomputable def GR (l:List B8):List C2:=(FO l).map fun a=>C2.mk a (sel a l)
theorem B68 {A:List C8} {f:C8→List A2} {c:B8} (hA:∀ a∈A,isD a) (hc:isD c.fRoute.fAttrs) (hn:A.length≤1000):Tot (N9 (A.map fun a=>C2.mk a (f a)) c) (fun k=>(k = -1∧c.fRoute.fAttrs∉A)∨∃ (i:Nat) (h:i<A.length),k=i∧A[i]=c.fRoute.fAttrs):=by
 unfold N9
 refine Tot.bindRng A.length (fun i (_:Unit)=>(i:Int)) (fun i _=>∀ j (h:j<A.length),j<i→A[j]≠c.fRoute.fAttrs) (fun x=>(x = .inr ()∧c.fRoute.fAttrs∉A)∨∃ (i:Nat) (h:i<A.length),x = .inl (i:Int)∧A[i]=c.fRoute.fAttrs) () rfl (fun j _ h=>absurd h (by omega)) (fun i _ hi hI => ?_) (fun _ hI => ?_) (fun x hx => ?_)
 ·unfold K4
  refine Tot.iteT (decide_eq_true (by rw [List.length_map];omega)) ?_
  refine Tot.bindIdx i rfl (by rw [List.length_map];exact hi) ?_
  rw [List.getElem_map]
  have:Z4 (C2.mk A[i] (f A[i])) c=some (aD A[i] c.fRoute.fAttrs):=by
   unfold Z4
   exact L0 (B3z (hA _ (List.getElem_mem hi)) hc) rfl
  refine Tot.bindOf this ?_
  refine Tot.ite (fun e=>Tot.stop (.inr ⟨i,hi,rfl,A4a.1 e⟩)) (fun e => ?_)
  refine Tot.step () (E8 hi (by omega)) fun j hj hji => ?_
  by_cases hji':j=i
  ·subst hji'
   intro e'
   rw [A4a.2 e'] at e;cases e
  ·exact hI j hj (by omega)
 ·unfold K4
  refine Tot.iteF (decide_eq_false (by rw [List.length_map];omega)) ?_
  refine Tot.last (.inl ⟨rfl,fun hm => ?_⟩)
  obtain⟨j,hj,e⟩:=List.getElem_of_mem hm
  exact hI j hj hj e
 ·rcases hx with ⟨rfl,h⟩ | ⟨i,h,rfl,e⟩
  ·exact Tot.some (.inl ⟨rfl,h⟩)
  ·exact Tot.some (.inr ⟨i,h,rfl,e⟩)
theorem B40 {A:List C8} (hA:A.Nodup) (f:C8→List A2) {i:Nat} (hi:i<A.length) (p:A2) :
  (A.map fun a=>C2.mk a (f a)).set i (C2.mk A[i] (f A[i]++[p]))=A.map fun a=>C2.mk a (if aD A[i] a=true then f a++[p] else f a):=by
 refine List.ext_getElem (by simp) fun k h1 h2 => ?_
 rw [List.getElem_set]
 by_cases e:i=k
 ·subst e
  rw [if_pos rfl,List.getElem_map,B31,if_pos rfl]
 ·rw [if_neg e,List.getElem_map,List.getElem_map]
  have hk:k<A.length:=by simpa using h2
  have:A[i]≠A[k]:=fun e'=>e ((List.getElem_inj hA).1 e')
  rw [B6z this,if_neg (by simp)]
theorem B6u {l:List B8} {i:Nat} (h:i<(GR l).length):(GR l)[i]=C2.mk ((FO l)[i]'(by simpa [GR] using h)) (sel ((FO l)[i]'(by simpa [GR] using h)) l):=by
 exact List.getElem_map _
noncomputable def packF (l:List B8):List A6:=(chunks bW (goneL l)).map uW++(FO l).flatMap fun a=>(chunks (bA a.fNext) (sel a l)).map (uAa a)
section
variable {l:List B8}
theorem Chs.isD (h:Chs l) {c:B8} (hc:c∈l) (hh:c.fHas=true):isD c.fRoute.fAttrs:=by
 obtain⟨n,x,m,h1,h2,_⟩:=(h.all c hc).att hh
 exact⟨n,x,m,h1,h2⟩
theorem Chs.foD (h:Chs l) {a:C8} (ha:a∈FO l):Go.Proofs.YtkhjkjojjdkidaaGreatDoor.isD a:=by
 obtain⟨c,hc,h1,rfl⟩:=(A99 l a).1 ha
 exact h.isD hc h1
theorem B1q {k:Nat} {a:C8} (h:a∈FO (l.take k)):a∈FO l:=by
 obtain⟨c,hc,h1,h2⟩:=(A99 _ a).1 h
 exact(A99 _ a).2 ⟨c,List.mem_of_mem_take hc,h1,h2⟩
theorem Chs.gR (h:Chs l):∀ p∈goneL l,aR p.fAddr:=fun p hp=>by
 obtain⟨c,hc,_,rfl⟩:=A9y hp
 exact(h.all c hc).val.addr.1
theorem Chs.sR (h:Chs l) {a:C8}:∀ p∈sel a l,aR p.fAddr:=fun p hp=>by
 obtain⟨c,hc,_,_,rfl⟩:=B0g hp
 exact(h.all c hc).val.addr.1
theorem A6j {α β:Type} (f:α→List β):∀ (A:List α) (n:Nat),(∀ a∈A,(f a).length≤n)→(A.flatMap f).length≤n*A.length
 | [],n,_=>by simp
 | a :: A,n,h=>by
  have:=A6j f A n fun b hb=>h b (List.mem_cons_of_mem _ hb)
  have:=h a (List.mem_cons_self ..)
  rw [List.flatMap_cons,List.length_append,List.length_cons,Nat.mul_succ];omega
theorem B2i (h:Chs l):Tot (loop (Y2 l) ((0:Int),([]:List C2),([]:List A2))) (fun x=>x = .inr (GR l,goneL l)):=by
 refine Tot.rng l.length (fun i (_:Unit)=>((i:Int),GR (l.take i),goneL (l.take i))) (fun _ _=>True) _ () rfl trivial (fun i _ hi _ => ?_) (fun _ _ => ?_)
 ·unfold Y2
  refine Tot.iteT (decide_eq_true (by simp only;omega)) ?_
  have hlen:=h.len
  have hci:l[i]∈l:=List.getElem_mem hi
  have hgd:=h.all _ hci
  have hsn:l.take (i+1)=l.take i++[l[i]]:=J4 hi
  refine Tot.jnR (fun m=>m=(GR (l.take (i+1)),goneL (l.take (i+1)))) (fun j hj => ?_) (fun m hm=>Tot.step () (by rw [hm,E8 hi (by omega)]) trivial)
  refine Tot.bindIdx i rfl hi ?_
  refine Tot.jnR (fun m=>m=false) (fun j2 hj2 => ?_) (fun m hm => ?_)
  ·refine Tot.bindOf (B51 hgd) ?_
   refine Tot.iteF rfl ?_
   refine Tot.ite (fun e => ?_) (fun e=>hj2 _ rfl)
   have hi0:0<i:=by have:=of_decide_eq_true e;simp only at this;omega
   obtain⟨k,rfl⟩:∃ k,i=k+1:=⟨i-1,by omega⟩
   refine Tot.bindIdx k (A77 (n:=l.length) (by omega) (by omega)) (by omega) ?_
   refine Tot.bindOf (B5x (h.all _ (List.getElem_mem (by omega))).val.addr.1 hgd.val.addr.1) ?_
   refine hj2 _ ?_
   have:=(B30 _ _).2 (h.asc k hi)
   exact decide_eq_false (by omega)
  ·subst hm
   refine Tot.iteF rfl ?_
   cases hh:l[i].fHas with
   | false =>
    refine Tot.iteT rfl ?_
    have hgl:=A1j (l.take i)
    refine Tot.chk (limB (by simp at hgl ⊢;omega)) ?_
    refine hj _ ?_
    rw [hsn,A4b,hh,if_neg (by simp)]
    have:GR (l.take i++[l[i]])=GR (l.take i):=by
     unfold GR
     rw [A3b,foS,hh,if_neg (by simp)]
     refine List.map_congr_left fun a _ => ?_
     rw [A98,hh,Bool.false_and,if_neg (by simp)]
    rw [this]
   | true =>
    refine Tot.iteF rfl ?_
    have hD:=h.isD hci hh
    have hAl:=B0h (l.take i)
    have hAl':(FO (l.take i)).length≤1000:=by simp at hAl;omega
    refine Tot.bindT (B68 (A:=FO (l.take i)) (f:=fun a=>sel a (l.take i)) (c:=l[i]) (fun a ha=>h.foD (B1q ha)) hD hAl') fun k hk => ?_
    -- the groups with one that holds the attributes
    refine Tot.jnR (fun m=>∃ (q:Nat) (hq:q<(FO (l.take (i+1))).length),m=((q:Int),(FO (l.take (i+1))).map fun a=>C2.mk a (sel a (l.take i)))∧(FO (l.take (i+1)))[q]=l[i].fRoute.fAttrs) (fun j3 hj3 => ?_) (fun m hm => ?_)
    ·rcases hk with ⟨rfl,hk⟩ | ⟨q,hq,rfl,hk⟩
     ·refine Tot.iteT (by decide) ?_
      refine Tot.chk (limB (by simp [GR];omega)) ?_
      have hF:FO (l.take (i+1))=FO (l.take i)++[l[i].fRoute.fAttrs]:=by rw [hsn,A3b,foS,if_pos ⟨hh,hk⟩]
      refine hj3 _ ⟨(FO (l.take i)).length,by rw [hF];simp,?_,by simp [hF]⟩
      rw [hF,List.map_append]
      simp only [GR,List.length_map,List.map_cons,List.map_nil]
      rw [B35 hk]
     ·refine Tot.iteF (decide_eq_false (by omega)) ?_
      have hF:FO (l.take (i+1))=FO (l.take i):=by
       rw [hsn,A3b,foS,if_neg]
       rintro⟨_,hn⟩
       exact hn (hk ▸ List.getElem_mem hq)
      refine hj3 _ ⟨q,by rw [hF];exact hq,?_,by simp only [hF];exact hk⟩
      rw [hF];rfl
    ·obtain⟨q,hq,rfl,hk⟩:=hm
     have hq':q<((FO (l.take (i+1))).map fun a=>C2.mk a (sel a (l.take i))).length:=by rw [List.length_map];exact hq
     have hsl:=A3c l[i].fRoute.fAttrs (l.take i)
     refine Tot.bindIdx q rfl hq' ?_
     refine Tot.bindIdx q rfl hq' ?_
     refine Tot.chk (limB (by rw [List.getElem_map,hk];simp at hsl ⊢;omega)) ?_
     refine Tot.bindIdx q rfl hq' ?_
     refine Tot.bindIdx q rfl hq' ?_
     refine hj _ ?_
     have e1:goneL (l.take (i+1))=goneL (l.take i):=by rw [hsn,A4b,hh,if_pos rfl]
     rw [e1]
     refine Prod.ext ?_ rfl
     have e2:=B40 (B52 (l.take (i+1))) (fun a=>sel a (l.take i)) hq l[i].fPrefix
     simp only [Int.toNat_natCast,List.getElem_map]
     refine e2.trans ?_
     unfold GR
     refine List.map_congr_left fun a _ => ?_
     conv=>rhs;rw [hsn,A98,hh,Bool.true_and]
     rw [hk]
 ·unfold Y2
  refine Tot.iteF (decide_eq_false (by simp only;omega)) ?_
  refine Tot.last ?_
  rw [List.take_of_length_le (Nat.le_refl _)]
theorem B36 (h:Chs l):A1g l=some (packF l,0):=by
 refine Tot.eq ?_
 unfold A1g
 refine Tot.bindT (B2i h) fun x hx => ?_
 subst hx
 have hlen:=h.len
 refine Tot.bindOf (filledW h.gR (Nat.le_trans (A1j l) (by omega))) ?_
 have hFl:=B0h l
 have hGl:(GR l).length=(FO l).length:=by unfold GR;rw [List.length_map]
 have hcl:=A09 bW (goneL l)
 have hgl:=A1j l
 refine Tot.bindRng (FO l).length (fun i (_:Unit)=>((i:Int),(chunks bW (goneL l)).map uW++((FO l).take i).flatMap fun a=>(chunks (bA a.fNext) (sel a l)).map (uAa a))) (fun _ _=>True) (fun r=>r=packF l) () (by simp) trivial (fun i _ hi _ => ?_) (fun _ _ => ?_) (fun x hx=>Tot.some (by rw [hx]))
 ·unfold A0x
  refine Tot.iteT (decide_eq_true (by show(i:Int)<((GR l).length:Int);omega)) ?_
  refine Tot.bindIdx i rfl (show i<(GR l).length by omega) ?_
  show Tot ((P8 (GR l)[i] true).bind _) _
  rw [B6u (by omega)]
  refine Tot.bindOf (filledD (h.foD (List.getElem_mem hi)) h.sR (Nat.le_trans (A3c _ l) (by omega))) ?_
  have hsn:(FO l).take (i+1)=(FO l).take i++[(FO l)[i]]:=J4 hi
  have h1:=A09 (bA (FO l)[i].fNext) (sel (FO l)[i] l)
  have h2:=A3c (FO l)[i] l
  have h3:(((FO l).take i).flatMap fun a=>(chunks (bA a.fNext) (sel a l)).map (uAa a)).length≤1000*((FO l).take i).length:=A6j _ _ _ fun a _=>by
   have:=A09 (bA a.fNext) (sel a l)
   have:=A3c a l
   rw [List.length_map];omega
  have h4:((FO l).take i).length≤1000:=by rw [List.length_take];omega
  refine Tot.chk (limB (by simp only [List.length_append,List.length_map];omega)) ?_
  refine Tot.step () ?_ trivial
  rw [hsn,List.flatMap_append]
  refine Prod.ext (E8 hi (by omega)) (by simp)
 ·unfold A0x
  refine Tot.iteF (decide_eq_false (by show ¬ (((FO l).length:Nat):Int)<((GR l).length:Int);omega)) ?_
  refine Tot.last ?_
  rw [List.take_of_length_le (Nat.le_refl _)];rfl
end
def Beg (V:List A2→Bool) (msg:List A2→A6) (pre:List A6) (S:List A2) (out:List A6):Prop :=
 (S=[]∧out=pre)∨(S≠[]∧∃ cs cur,out=pre++cs.map msg++[msg cur]∧cur≠[]∧cur.length+cs.length≤S.length∧(∀ p∈cur,p∈S)∧∀ l',chunks V (S++l')=cs++ck V cur l')
theorem Beg.done {V:List A2→Bool} {msg:List A2→A6} {pre:List A6} {S:List A2} {out:List A6} (h:Beg V msg pre S out):out=pre++(chunks V S).map msg:=by
 rcases h with ⟨rfl,rfl⟩ | ⟨_,cs,cur,rfl,_,_,_,h⟩
 ·simp [chunks]
 ·have:=h []
  rw [List.append_nil] at this
  rw [this]
  simp [ck]
theorem Beg.new {V:List A2→Bool} {msg:List A2→A6} {pre:List A6} {p:A2}:Beg V msg pre [p] (pre++[msg [p]]) :=
 .inr ⟨by simp,[],[p],by simp,by simp,by simp,by simp,fun l'=>by simp [chunks]⟩
theorem Beg.more {V:List A2→Bool} {msg:List A2→A6} {pre:List A6} {S:List A2} {cs:List (List A2)} {cur:List A2} {p:A2} {out:List A6}
  (h0:cur≠[]) (hlen:cur.length+cs.length≤S.length) (hm:∀ p∈cur,p∈S) (hc:∀ l',chunks V (S++l')=cs++ck V cur l')
  (ho:out=if V (cur++[p])=true then pre++cs.map msg++[msg (cur++[p])] else pre++cs.map msg++[msg cur]++[msg [p]]):Beg V msg pre (S++[p]) out:=by
 right
 refine⟨by simp,?_⟩
 by_cases hv:V (cur++[p])=true
 ·rw [if_pos hv] at ho
  refine⟨cs,cur++[p],ho,by simp,by simp;omega,?_,fun l' => ?_⟩
  ·intro q hq
   rcases List.mem_append.1 hq with hq | hq
   ·exact List.mem_append_left _ (hm q hq)
   ·exact List.mem_append_right _ hq
  ·rw [List.append_assoc,hc]
   show cs++ck V cur (p :: l')=_
   rw [B6d hv]
 ·rw [if_neg hv] at ho
  have:=List.length_pos_iff.2 h0
  refine⟨cs++[cur],[p],by rw [ho];simp,by simp,by simp;omega,?_,fun l' => ?_⟩
  ·intro q hq
   exact List.mem_append_right _ hq
  ·rw [List.append_assoc,hc]
   show cs++ck V cur (p :: l')=_
   simp only [ck]
   rw [if_neg hv]
   simp
section
variable {l:List B8}
theorem B1r (h:Chs l):Tot (loop (R6 l) (0:Int)) (fun x=>x = .inr ()):=by
 have hlen:=h.len
 refine Tot.rng l.length (fun i (_:Unit)=>(i:Int)) (fun _ _=>True) _ () rfl trivial (fun i _ hi _ => ?_) (fun _ _ => ?_)
 ·unfold R6
  refine Tot.iteT (decide_eq_true (show(i:Int)<(l.length:Int) by omega)) ?_
  have hci:l[i]∈l:=List.getElem_mem hi
  have hgd:=h.all _ hci
  refine Tot.bindIdx i rfl hi ?_
  refine Tot.jnR (fun m=>m=false) (fun j2 hj2 => ?_) (fun m hm => ?_)
  ·refine Tot.bindOf (B67 hgd) ?_
   refine Tot.iteF rfl ?_
   refine Tot.ite (fun e => ?_) (fun e=>hj2 _ rfl)
   have hi0:0<i:=by have:=of_decide_eq_true e;omega
   obtain⟨k,rfl⟩:∃ k,i=k+1:=⟨i-1,by omega⟩
   refine Tot.bindIdx k (A77 (n:=l.length) (by omega) (by omega)) (by omega) ?_
   refine Tot.bindOf (B4t (h.all _ (List.getElem_mem (by omega))).val.addr.1 hgd.val.addr.1) ?_
   refine hj2 _ ?_
   have:=(B30 _ _).2 (h.asc k hi)
   exact decide_eq_false (by omega)
  ·subst hm
   refine Tot.iteF rfl ?_
   exact Tot.step () (E8 hi (by omega)) trivial
 ·unfold R6
  refine Tot.iteF (decide_eq_false (show ¬ (l.length:Int)<(l.length:Int) by omega)) ?_
  exact Tot.last rfl
theorem B71 {S:List A2} {out:List A6} {p:A2} (h:Beg bW uW [] S out) (hS:S.length≤1000) (hR:∀ q∈S++[p],aR q.fAddr) :
  Tot (F9 out (uW [p]) p ((out.length:Int)==(0:Int))) (fun r=>Beg bW uW [] (S++[p]) r):=by
 rcases h with ⟨rfl,rfl⟩ | ⟨h0,cs,cur,rfl,h1,h2,h3,h4⟩
 ·have:=B1n (out:=[]) (u:=uW [p]) (p:=p) (by simp)
  exact Tot.of this (by simpa using Beg.new (V:=bW) (msg:=uW) (pre:=[]) (p:=p))
 ·have e:(((([]:List A6)++cs.map uW++[uW cur]).length:Int)==0)=false:=by
   rw [beq_eq_false_iff_ne];simp;omega
  rw [e]
  refine Tot.of (moreW (out:=[]++cs.map uW) (c:=cur) (by simp;omega) h1 (by omega) fun q hq=>hR q ?_) ?_
  ·rcases List.mem_append.1 hq with hq | hq
   ·exact List.mem_append_left _ (h3 q hq)
   ·exact List.mem_append_right _ hq
  ·exact Beg.more h1 h2 h3 h4 rfl
theorem B2j (h:Chs l):Tot (loop (R7 l) ((0:Int),([]:List A6))) (fun x=>x=(chunks bW (goneL l)).map uW):=by
 have hlen:=h.len
 refine Tot.rng l.length (fun i (out:List A6)=>((i:Int),out)) (fun i out=>Beg bW uW [] (goneL (l.take i)) out) _ [] rfl (.inl ⟨by simp [goneL],rfl⟩) (fun i out hi hI => ?_) (fun out hI => ?_)
 ·unfold R7
  refine Tot.iteT (decide_eq_true (show(i:Int)<(l.length:Int) by omega)) ?_
  have hci:l[i]∈l:=List.getElem_mem hi
  have hgd:=h.all _ hci
  have hsn:l.take (i+1)=l.take i++[l[i]]:=J4 hi
  refine Tot.bindIdx i rfl hi ?_
  refine Tot.jnR (fun m=>Beg bW uW [] (goneL (l.take (i+1))) m) (fun j hj => ?_) (fun m hm=>Tot.step m (by rw [E8 hi (by omega)]) hm)
  cases hh:l[i].fHas with
  | false =>
   refine Tot.iteT rfl ?_
   refine Tot.bindOf A6t ?_
   have hgl:=A1j (l.take i)
   refine Tot.bindT (B71 (S:=goneL (l.take i)) (p:=l[i].fPrefix) hI (by simp at hgl;omega) fun q hq => ?_) fun r hr=>hj _ ?_
   ·rcases List.mem_append.1 hq with hq | hq
    ·obtain⟨c,hc,_,rfl⟩:=A9y hq
     exact(h.all c (List.mem_of_mem_take hc)).val.addr.1
    ·rw [List.mem_singleton.1 hq];exact hgd.val.addr.1
   ·rw [hsn,A4b,hh,if_neg (by simp)];exact hr
  | true =>
   refine Tot.iteF rfl ?_
   refine hj _ ?_
   rw [hsn,A4b,hh,if_pos rfl];exact hI
 ·unfold R7
  refine Tot.iteF (decide_eq_false (show ¬ (l.length:Int)<(l.length:Int) by omega)) ?_
  refine Tot.last ?_
  rw [List.take_of_length_le (Nat.le_refl _)] at hI
  simpa using hI.done
theorem B72 {a:C8} (ha:isD a) {pre:List A6} {S:List A2} {out:List A6} {p:A2} (h:Beg (bA a.fNext) (uAa a) pre S out) (hp:pre.length≤80000000) (hS:S.length≤1000) (hR:∀ q∈S++[p],aR q.fAddr) {b:Bool} (hb:b=true↔S=[]) :
  Tot (F9 out (uAa a [p]) p b) (fun r=>Beg (bA a.fNext) (uAa a) pre (S++[p]) r):=by
 rcases h with ⟨rfl,rfl⟩ | ⟨h0,cs,cur,rfl,h1,h2,h3,h4⟩
 ·rw [hb.2 rfl]
  have:=B1n (out:=out) (u:=uAa a [p]) (p:=p) (by omega)
  exact Tot.of this Beg.new
 ·have e:b=false:=by
   rw [Bool.eq_false_iff];exact fun e=>h0 (hb.1 e)
  rw [e]
  obtain⟨n,x,m,hd,rfl⟩:=ha
  refine Tot.of (moreA hd (out:=pre++cs.map (uAa (mkD n x m))) (c:=cur) (by simp;omega) (by omega) fun q hq=>hR q ?_) ?_
  ·rcases List.mem_append.1 hq with hq | hq
   ·exact List.mem_append_left _ (h3 q hq)
   ·exact List.mem_append_right _ hq
  ·exact Beg.more h1 h2 h3 h4 rfl
theorem B53 {a:C8} (h:isD a):N1 a=some a:=by
 obtain⟨n,x,m,_,rfl⟩:=h
 exact B6q
def Dn (l:List B8) (A:List C8) (d:List Bool):Prop:=d.length=l.length∧∀ (k:Nat) (h:k<l.length) (h':k<d.length),l[k].fHas=true→(d[k]=true↔l[k].fRoute.fAttrs∈A)
theorem B54 (h:Chs l) {i:Nat} (hi:i<l.length) (hh:l[i].fHas=true) (hA:l[i].fRoute.fAttrs∉FO (l.take i)) {d:List Bool} (hd:Dn l (FO (l.take i)) d) {pre:List A6} (hp:pre.length≤80000000) :
  Tot (loop (R8 l l[i]) (true,(i:Int),d,pre)) (fun r=>Dn l (FO (l.take (i+1))) r.1∧r.2=pre++(chunks (bA l[i].fRoute.fAttrs.fNext) (sel l[i].fRoute.fAttrs l)).map (uAa l[i].fRoute.fAttrs)):=by
 have hlen:=h.len
 have hD:=h.isD (List.getElem_mem hi) hh
 have hsi:sel l[i].fRoute.fAttrs (l.take i)=[]:=B35 hA
 refine Tot.rng (β:=Bool×List Bool×List A6) (l.length-i) (fun k b=>(b.1,((i+k:Nat):Int),b.2.1,b.2.2)) (fun k b=>(b.1=true↔sel l[i].fRoute.fAttrs (l.take (i+k))=[])∧Beg (bA l[i].fRoute.fAttrs.fNext) (uAa l[i].fRoute.fAttrs) pre (sel l[i].fRoute.fAttrs (l.take (i+k))) b.2.2∧b.2.1.length=l.length ∧
  (∀ (q:Nat) (hq:q<l.length) (hq':q<b.2.1.length),l[q].fHas=true→(b.2.1[q]=true↔l[q].fRoute.fAttrs∈FO (l.take i)∨(q<i+k∧l[q].fRoute.fAttrs=l[i].fRoute.fAttrs)))) _ (true,d,pre) rfl ?_ (fun k b hk hI => ?_) (fun b hI => ?_)
 ·refine⟨by simp [hsi],.inl ⟨by simpa using hsi,rfl⟩,hd.1,fun q hq hq' hc => ?_⟩
  rw [hd.2 q hq hq' hc]
  constructor
  ·intro e;exact .inl e
  ·rintro(e | ⟨e1,e2⟩)
   ·exact e
   ·exfalso
    have hm:l[q]∈l.take i:=by
     rw [List.mem_take_iff_getElem]
     exact⟨q,by omega,rfl⟩
    exact hA ((A99 _ _).2 ⟨l[q],hm,hc,e2⟩)
 ·obtain⟨b1,b2,b3⟩:=b
  obtain⟨h1,h2,h3,h4⟩:=hI
  simp only at h1 h2 h3 h4
  have hj:i+k<l.length:=by omega
  have hsn:l.take (i+(k+1))=l.take (i+k)++[l[i+k]]:=J4 hj
  unfold R8
  refine Tot.iteT (decide_eq_true (by simp only;omega)) ?_
  refine Tot.bindIdx (i+k) rfl hj ?_
  refine Tot.jnR (fun m=>m=(l[i+k].fHas&&aD l[i+k].fRoute.fAttrs l[i].fRoute.fAttrs)) (fun j hjj => ?_) (fun m hm => ?_)
  ·cases hc:l[i+k].fHas with
   | true =>
    refine Tot.iteT rfl ?_
    refine Tot.bindOf (B1p (h.isD (List.getElem_mem hj) hc) hD) ?_
    exact hjj _ (by rw [hc];rfl)
   | false =>
    refine Tot.iteF rfl ?_
    exact hjj _ (by rw [hc];rfl)
  ·subst hm
   have hw:w64 (((i+k:Nat):Int)+1)=((i+(k+1):Nat):Int):=E8 hj (by omega)
   have hss:=A98 l[i].fRoute.fAttrs (l.take (i+k)) l[i+k]
   have hsl:=A3c l[i].fRoute.fAttrs (l.take (i+k))
   refine Tot.jnR (fun m=>(m.1=true↔sel l[i].fRoute.fAttrs (l.take (i+(k+1)))=[])∧Beg (bA l[i].fRoute.fAttrs.fNext) (uAa l[i].fRoute.fAttrs) pre (sel l[i].fRoute.fAttrs (l.take (i+(k+1)))) m.2.2∧m.2.1.length=l.length ∧
    (∀ (q:Nat) (hq:q<l.length) (hq':q<m.2.1.length),l[q].fHas=true→(m.2.1[q]=true↔l[q].fRoute.fAttrs∈FO (l.take i)∨(q<i+(k+1)∧l[q].fRoute.fAttrs=l[i].fRoute.fAttrs)))) (fun j2 hj2 => ?_) (fun m hm=>Tot.step m (by rw [hw]) hm)
   cases he:(l[i+k].fHas&&aD l[i+k].fRoute.fAttrs l[i].fRoute.fAttrs) with
   | true =>
    rw [he,if_pos rfl] at hss
    rw [Bool.and_eq_true,A4a] at he
    refine Tot.iteT rfl ?_
    refine Tot.bindOf (B53 (h.isD (List.getElem_mem hj) he.1)) ?_
    have hb:=B72 hD (p:=l[i+k].fPrefix) h2 hp (by simp at hsl;omega) (fun q hq=>by
     rcases List.mem_append.1 hq with hq | hq
     ·obtain⟨c,hc,_,_,rfl⟩:=B0g hq
      exact(h.all c (List.mem_of_mem_take hc)).val.addr.1
     ·rw [List.mem_singleton.1 hq];exact(h.all _ (List.getElem_mem hj)).val.addr.1) h1
    rw [he.2]
    refine Tot.bindT hb fun r hr => ?_
    refine Tot.bindIdx (i+k) rfl (show i+k<b2.length by omega) ?_
    refine Tot.bindIdx (i+k) rfl (show i+k<b2.length by omega) ?_
    refine hj2 _ ⟨?_,?_,by simpa using h3,fun q hq hq' hc => ?_⟩
    ·rw [hsn,hss];simp
    ·rw [hsn,hss];exact hr
    ·simp only [Int.toNat_natCast]
     rw [List.getElem_set]
     by_cases eq:i+k=q
     ·subst eq
      rw [if_pos rfl]
      simp [he.2]
     ·rw [if_neg eq,h4 q hq (by omega) hc]
      constructor
      ·rintro(e | ⟨e1,e2⟩)
       ·exact .inl e
       ·exact .inr ⟨by omega,e2⟩
      ·rintro(e | ⟨e1,e2⟩)
       ·exact .inl e
       ·exact .inr ⟨by omega,e2⟩
   | false =>
    rw [he,if_neg (by simp)] at hss
    refine Tot.iteF rfl ?_
    refine hj2 _ ⟨?_,?_,h3,fun q hq hq' hc => ?_⟩
    ·rw [hsn,hss];exact h1
    ·rw [hsn,hss];exact h2
    ·rw [h4 q hq hq' hc]
     constructor
     ·rintro(e | ⟨e1,e2⟩)
      ·exact .inl e
      ·exact .inr ⟨by omega,e2⟩
     ·rintro(e | ⟨e1,e2⟩)
      ·exact .inl e
      ·refine .inr ⟨?_,e2⟩
       by_cases eq:i+k=q
       ·subst eq
        rw [hc,Bool.true_and,A4a.2 e2] at he;cases he
       ·omega
 ·obtain⟨b1,b2,b3⟩:=b
  obtain⟨h1,h2,h3,h4⟩:=hI
  simp only at h1 h2 h3 h4
  have hil:i+(l.length-i)=l.length:=by omega
  rw [hil] at h1 h2 h4
  unfold R8
  refine Tot.iteF (decide_eq_false (by simp only;omega)) ?_
  refine Tot.last ⟨⟨h3,fun q hq hq' hc => ?_⟩,?_⟩
  ·rw [h4 q hq hq' hc,J4 hi,A3b,foS,if_pos ⟨hh,hA⟩]
   simp [hq]
  ·rw [List.take_of_length_le (Nat.le_refl _)] at h2
   exact h2.done
theorem B55 (h:Chs l):A1y l=some (packF l,0):=by
 have hlen:=h.len
 refine Tot.eq ?_
 unfold A1y
 refine Tot.bindT (B1r h) fun x hx => ?_
 subst hx
 refine Tot.bindT (B2j h) fun p hp => ?_
 subst hp
 refine Tot.chk ?_ ?_
 ·have:(LIM:Int)=4294967296:=rfl
  simp only [Bool.and_eq_true,decide_eq_true_eq]
  omega
 have hcl:=A09 bW (goneL l)
 have hgl:=A1j l
 refine Tot.bindRng (β:=List Bool) l.length (fun i d=>((i:Int),d,(chunks bW (goneL l)).map uW++(FO (l.take i)).flatMap fun a=>(chunks (bA a.fNext) (sel a l)).map (uAa a))) (fun i d=>Dn l (FO (l.take i)) d) (fun r=>r=packF l) (List.replicate (l.length:Int).toNat false) (by simp [FO]) ?_ (fun i d hi hI => ?_) (fun d hI => ?_) (fun x hx=>Tot.some (by rw [hx]))
 ·refine⟨by simp,fun k hk hk' hc => ?_⟩
  simp [FO]
 ·unfold X2
  refine Tot.iteT (decide_eq_true (by simp only;omega)) ?_
  have hsn:l.take (i+1)=l.take i++[l[i]]:=J4 hi
  have hF:=A3b (l.take i) l[i]
  refine Tot.jnR (fun m=>Dn l (FO (l.take (i+1))) m.1∧m.2=(chunks bW (goneL l)).map uW++(FO (l.take (i+1))).flatMap fun a=>(chunks (bA a.fNext) (sel a l)).map (uAa a)) (fun j hj => ?_) (fun m hm=>Tot.step m.1 (by rw [E8 hi (by omega),hm.2]) hm.1)
  refine Tot.bindIdx i rfl hi ?_
  refine Tot.jnR (fun m=>m=false↔(l[i].fHas=true∧l[i].fRoute.fAttrs∉FO (l.take i))) (fun j2 hj2 => ?_) (fun m hm => ?_)
  ·cases hh:l[i].fHas with
   | false =>
    refine Tot.iteT rfl ?_
    exact hj2 _ (by simp [hh])
   | true =>
    refine Tot.iteF rfl ?_
    refine Tot.bindIdx i rfl (by rw [hI.1];exact hi) ?_
    refine Tot.bindIdx i rfl (by rw [hI.1];exact hi) ?_
    refine hj2 _ ?_
    rw [← hI.2 i hi (by rw [hI.1];exact hi) hh]
    simp [hh]
  ·cases m with
   | true =>
    refine Tot.iteT rfl ?_
    have hF':FO (l.take (i+1))=FO (l.take i):=by
     rw [hsn,hF,foS,if_neg]
     intro e;have:=hm.2 e;cases this
    refine hj _ ?_
    rw [hF']
    exact⟨hI,rfl⟩
   | false =>
    refine Tot.iteF rfl ?_
    obtain⟨hh,hA⟩:=hm.1 rfl
    have hF':FO (l.take (i+1))=FO (l.take i)++[l[i].fRoute.fAttrs]:=by
     rw [hsn,hF,foS,if_pos ⟨hh,hA⟩]
    have hfl:=B0h (l.take i)
    have h3:((FO (l.take i)).flatMap fun a=>(chunks (bA a.fNext) (sel a l)).map (uAa a)).length≤1000*(FO (l.take i)).length:=A6j _ _ _ fun a _=>by
     have:=A09 (bA a.fNext) (sel a l)
     have:=A3c a l
     rw [List.length_map];omega
    have h4:(FO (l.take i)).length≤1000:=by rw [List.length_take] at hfl;omega
    refine Tot.bindT (B54 h hi hh hA hI (by rw [List.length_append,List.length_map];omega)) fun r hr=>hj _ ⟨hr.1,?_⟩
    rw [hr.2,hF',List.flatMap_append]
    simp
 ·unfold X2
  refine Tot.iteF (decide_eq_false (by simp only;omega)) ?_
  refine Tot.last ?_
  rw [List.take_of_length_le (Nat.le_refl _)];rfl
end
theorem B56 (a m:Int) (hm:0<m) (hb:m≤4611686018427387904):G7 a m=some (a % m):=by
 obtain⟨h0,h1⟩:=B13 a hm
 unfold G7
 refine B6m (by simp;omega) ?_
 unfold jn
 rcases B3m a hm with h | ⟨h,hn⟩
 ·rw [h]
  exact B12 (by simp;omega) rfl
 ·rw [h]
  refine B11 (by simp;omega) ?_
  rw [show a % m-m+m=a % m from by omega,F3 (by omega) (by omega)]
def DeckOk (d:B7):Prop:=0≤d.fAt∧d.fAt≤d.fL.length∧d.fL.length≤9223372036854775807
theorem B1s (d:B7) (hd:DeckOk d) (n:Int) (hn:0<n) (hn':n≤4611686018427387904):Tot (F7 d n) (fun x=>0≤x.1∧x.1<n∧DeckOk x.2):=by
 obtain⟨h0,h1,h2⟩:=hd
 unfold F7
 refine Tot.ite (fun h => ?_) (fun h => ?_)
 ·exact Tot.some ⟨Int.le_refl _,hn,h0,h1,h2⟩
 ·obtain⟨k,hk⟩:∃ k:Nat,d.fAt=k:=⟨d.fAt.toNat,by omega⟩
  have hlt:k<d.fL.length:=by simp at h;omega
  obtain⟨m0,m1⟩:=B13 d.fL[k] hn
  rw [F3 (n:=d.fAt+1) (by omega) (by omega),F3 (n:=d.fAt+1-1) (by omega) (by omega)]
  refine Tot.bindIdx k (by omega) hlt (Tot.bindOf (B56 _ n hn hn') (Tot.some ⟨m0,m1,?_⟩))
  exact⟨by simp only;omega,by simp only;omega,h2⟩
theorem B6v (l:List Int) (hl:l.length≤9223372036854775807):DeckOk ⟨l,0⟩:=⟨Int.le_refl _,by simp only;omega,hl⟩
def mP (k:Nat):A2:=A2.mk (D0.mk false 0 ((335544320+k*256:Nat):Int)) 24
def mX:D0:=D0.mk false 0 7
theorem B73 {m:Int} (h:0≤m∧m<2):dOk 101 mX m :=
 ⟨by omega,⟨⟨by decide,by decide⟩,.inr (by decide)⟩,by decide,by omega⟩
theorem mP_n (k:Nat):nA (mP k).fAddr=335544320+k*256:=by
 show(0:Int).toNat*18446744073709551616+(((335544320+k*256:Nat):Int)).toNat=_
 rw [Int.toNat_natCast];simp
theorem mP_V {k:Nat} (h:k≤60000):pV (mP k):=by
 refine⟨⟨⟨(by show(0:Int)≤0∧(0:Int)<18446744073709551616;decide),?_⟩,.inr ⟨rfl,?_⟩⟩,(by show(0:Int)≤24;decide),(by show(24:Int)≤((wid false:Nat):Int);decide),?_⟩
 ·show(0:Int)≤((335544320+k*256:Nat):Int)∧((335544320+k*256:Nat):Int)<18446744073709551616
  omega
 ·show((335544320+k*256:Nat):Int)<4294967296
  omega
 ·rw [mP_n]
  show cut (335544320+k*256) 8=_
  unfold cut
  omega
theorem B74 {k:Nat}:pLt (mP k) (mP (k+1)):=.inl (.inr ⟨rfl,by rw [mP_n,mP_n];omega⟩)
theorem mP_A {k:Nat} (h:k≤60000):bA mX [mP k]=true:=by
 refine B2d.2 ⟨by simp,?_,?_,(by show aa mX 0≤2048;decide),?_⟩
 ·intro p hp;rw [List.mem_singleton.1 hp];exact mP_V h
 ·intro p hp;rw [List.mem_singleton.1 hp];rfl
 ·have e1:clen true [mP k]=0:=by simp [clen,mP]
  have e2:clen false [mP k]=4:=by simp [clen,mP,pc]
  rw [e1,e2];decide
def zR:V7:=V7.mk zP 0 (C8.mk 0 [] zA 0 0 0 [] [] [])
structure rt (c:B8):Prop where
 val:pV c.fPrefix
 z:c.fHas=false→c.fRoute=zR
 h:c.fHas=true→∃ n x m,dOk n x m∧c.fRoute=V7.mk c.fPrefix n (mkD n x m)∧bA x [c.fPrefix]=true
theorem rt.gd {c:B8} (h:rt c):gd c:=by
 refine⟨h.val,fun e => ?_,fun e => ?_⟩
 ·obtain⟨n,x,m,_,h2,_⟩:=h.h e
  rw [h2]
 ·obtain⟨n,x,m,h1,h2,h3⟩:=h.h e
  exact⟨n,x,m,h1,by rw [h2],h3⟩
structure mOk (k:Nat) (c:B8):Prop where
 p:c.fPrefix=mP k
 r:c.fHas=true→∃ m:Int,(0≤m∧m<2)∧c.fRoute=V7.mk (mP k) 101 (mkD 101 mX m)
 z:c.fHas=false→c.fRoute=zR
theorem mOk.rt {k:Nat} {c:B8} (h:mOk k c) (hk:k≤60000):rt c:=by
 refine⟨by rw [h.p];exact mP_V hk,h.z,fun e => ?_⟩
 obtain⟨m,hm,ha⟩:=h.r e
 exact⟨101,mX,m,B73 hm,by rw [ha,h.p],by rw [h.p];exact mP_A hk⟩
theorem B69 {l:List B8} (hl:l.length≤1000) (h:∀ (k:Nat) (hk:k<l.length),mOk k l[k]):Chs l:=by
 refine⟨fun c hc => ?_,fun i hi => ?_,hl⟩
 ·obtain⟨k,hk,rfl⟩:=List.getElem_of_mem hc
  exact((h k hk).rt (by omega)).gd
 ·rw [(h i (by omega)).p,(h (i+1) hi).p]
  exact B74
theorem B6a {k:Nat} (h:k≤60000):bitI .or .u64 (335544320:Int) (shlI .u64 (IntKind.u64.wrap (k:Int)) (8:Int))=((335544320+k*256:Nat):Int):=by
 rw [A2i (by omega),show(8:Int)=((8:Nat):Int) from rfl,A6e k 8 (by omega),show(335544320:Int)=((335544320:Nat):Int) from rfl]
 have e:k*2 ^ 8 % 18446744073709551616=k*256:=by omega
 rw [e,B29 (by omega) (by omega)]
 congr 1
 have:=Nat.two_pow_add_eq_or_of_lt (i:=24) (b:=k*256) (by omega) 20
 rw [show 2 ^ 24*20=335544320 from rfl] at this
 omega
theorem B57 (d:B7) (hd:DeckOk d) {n:Nat} (hn:n≤1000):Tot (A0g d (n:Int)) (fun r=>r.1.length=n∧∀ (k:Nat) (hk:k<r.1.length),mOk k r.1[k]):=by
 unfold A0g
 refine Tot.bindRng (β:=List B8×B7) n (fun i b=>((i:Int),b.1,b.2)) (fun i b=>(b.1.length=i∧∀ (k:Nat) (hk:k<b.1.length),mOk k b.1[k])∧DeckOk b.2) (fun p=>p.2.length=n∧∀ (k:Nat) (hk:k<p.2.length),mOk k p.2[k]) ([],d) rfl ⟨⟨rfl,fun k hk=>absurd hk (by simp)⟩,hd⟩ (fun i b hi hI => ?_) (fun b hI => ?_) (fun p hp=>Tot.some hp)
 ·obtain⟨bl,bd⟩:=b
  obtain⟨⟨h1,h2⟩,h3⟩:=hI
  simp only at h1 h2 h3
  unfold X4
  refine Tot.iteT (decide_eq_true (show(i:Int)<(n:Int) by omega)) ?_
  refine Tot.bindT (B1s bd h3 3 (by omega) (by omega)) fun r hr => ?_
  have key:∀ {c:B8},mOk i c→(bl++[c]).length=i+1∧∀ (k:Nat) (hk:k<(bl++[c]).length),mOk k (bl++[c])[k]:=fun {c} hc=>by
   refine⟨by simp [h1],fun k hk => ?_⟩
   rw [List.getElem_append]
   split
   ·rename_i hk'
    exact h2 k hk'
   ·rename_i hk'
    have:k=i:=by simp at hk;omega
    subst this
    simpa using hc
  have hw:=B6a (k:=i) (by omega)
  refine Tot.jnR (fun m=>(m.1=true→m.2.1=((335544320+i*256:Nat):Int)∧m.2.2.1=24∧m.2.2.2.1=101∧m.2.2.2.2.1=[B2.mk false [101]]∧m.2.2.2.2.2.1=7∧(0≤m.2.2.2.2.2.2.1∧m.2.2.2.2.2.2.1<2)∧m.2.2.2.2.2.2.2.1 = -1∧m.2.2.2.2.2.2.2.2.1 = -1∧m.2.2.2.2.2.2.2.2.2.1=[]∧m.2.2.2.2.2.2.2.2.2.2.1=[]∧m.2.2.2.2.2.2.2.2.2.2.2.1=[])∧(m.1=false→m=(false,0,0,0,[],0,0,0,0,[],[],[],m.2.2.2.2.2.2.2.2.2.2.2.2))∧DeckOk m.2.2.2.2.2.2.2.2.2.2.2.2) (fun j hj => ?_) (fun m hm => ?_)
  ·refine Tot.ite (fun e => ?_) (fun e => ?_)
   ·refine Tot.bindOf A6t ?_
    refine Tot.bindT (B1s r.2 hr.2.2 2 (by omega) (by omega)) fun r2 hr2 => ?_
    exact hj _ ⟨fun _=>⟨hw,rfl,rfl,rfl,rfl,⟨hr2.1,hr2.2.1⟩,rfl,rfl,rfl,rfl,rfl⟩,(fun e=>by cases e),hr2.2.2⟩
   ·exact hj _ ⟨(fun e=>by cases e),fun _=>rfl,hr.2.2⟩
  ·obtain⟨m1,m2,m3,m4,m5,m6,m7,m8,m9,m10,m11,m12,m13⟩:=m
   obtain⟨hm1,hm0,hm2⟩:=hm
   simp only at hm1 hm0 hm2
   refine Tot.chk (limB (by simp;omega)) ?_
   refine Tot.step (_,m13) (by rw [E8 hi (by omega)]) ⟨key ⟨?_,fun e => ?_,fun e => ?_⟩,hm2⟩
   ·simp only [hw];rfl
   ·obtain⟨e1,e2,e11,e3,e4,e5,e6,e7,e8,e9,e10⟩:=hm1 e
    refine⟨m7,e5,?_⟩
    simp only [e1,e2,e3,e4,e6,e7,e8,e9,e10,e11];rfl
   ·have e':=hm0 e
    simp only [Prod.mk.injEq] at e'
    obtain⟨e1,e2,e3,e4,e5,e6,e7,e8,e9,e10,e11,e12,_⟩:=e'
    simp only [e2,e3,e4,e5,e6,e7,e8,e9,e10,e11,e12];rfl
 ·unfold X4
  refine Tot.iteF (decide_eq_false (show ¬ (n:Int)<(n:Int) by omega)) ?_
  exact Tot.last hI.1
theorem B58 (l:List Int) (hl:l.length≤9223372036854775807) (a:Int) {b m:Nat} (hm:0<m) (h:b+m≤1000) {α:Type} {P:α→Prop} {f:List B8×B7→Option α} (k:∀ r:List B8×B7,Chs r.1→Tot (f r) P) :
  Tot ((K5 l).bind fun r1=>(G7 a (m:Int)).bind fun r2=>(A0g r1 (w64 ((b:Int)+r2))).bind f) P:=by
 refine Tot.bindOf (show K5 l=some ⟨l,0⟩ from rfl) ?_
 refine Tot.bindOf (B56 a m (by omega) (by omega)) ?_
 have h1:=Int.emod_nonneg a (show(m:Int)≠0 by omega)
 have h2:=Int.emod_lt_of_pos a (show(0:Int)<(m:Int) by omega)
 have e:w64 ((b:Int)+a % (m:Int))=((b+(a % (m:Int)).toNat:Nat):Int):=by
  rw [F3 (by omega) (by omega)];omega
 rw [e]
 refine Tot.bindT (B57 _ (B6v l hl) (by omega)) fun r hr=>k r (B69 (by omega) hr.2)
-- comparing with itself
theorem A3d {l:List A2} (hl:l.length≤100000):J7 l l=some true:=by
 refine Tot.eq ?_
 unfold J7
 refine Tot.iteF (by simp) ?_
 refine Tot.bindRng l.length (fun i (_:Unit)=>(i:Int)) (fun _ _=>True) (fun x=>x = .inr ()) () rfl trivial (fun i _ hi _ => ?_) (fun _ _ => ?_) (fun x hx=>by subst hx;exact Tot.some rfl)
 ·unfold J2
  refine Tot.iteT (decide_eq_true (by omega)) ?_
  refine Tot.bindIdx i rfl hi ?_
  refine Tot.bindIdx i rfl hi ?_
  refine Tot.iteF (by simp) ?_
  exact Tot.step () (E8 hi (by omega)) trivial
 ·unfold J2
  refine Tot.iteF (decide_eq_false (by omega)) ?_
  exact Tot.last rfl
theorem B41 {u:List A6} (hu:u.length≤4000000) (h:∀ x∈u,(x.fAttrs=noD∨isD x.fAttrs)∧x.fWithdraw.length≤100000∧x.fAnnounce.length≤100000):A1z u u=some true:=by
 refine Tot.eq ?_
 unfold A1z
 refine Tot.iteF (by simp) ?_
 refine Tot.bindRng u.length (fun i (_:Unit)=>(i:Int)) (fun _ _=>True) (fun x=>x = .inr ()) () rfl trivial (fun i _ hi _ => ?_) (fun _ _ => ?_) (fun x hx=>by subst hx;exact Tot.some rfl)
 ·obtain⟨h1,h2,h3⟩:=h _ (List.getElem_mem hi)
  unfold X3
  refine Tot.iteT (decide_eq_true (by omega)) ?_
  refine Tot.jnR (fun m=>m=false) (fun j hj => ?_) (fun m hm => ?_)
  ·refine Tot.bindIdx i rfl hi (Tot.bindIdx i rfl hi ?_)
   refine Tot.bindOf (A3d h2) (Tot.iteF rfl ?_)
   refine Tot.bindIdx i rfl hi (Tot.bindIdx i rfl hi ?_)
   refine Tot.bindOf (A3d h3) (Tot.iteF rfl ?_)
   refine Tot.bindIdx i rfl hi (Tot.bindIdx i rfl hi ?_)
   have:G6 u[i].fAttrs u[i].fAttrs=some true:=by
    rcases h1 with h1 | h1
    ·rw [h1];exact B61
    ·rw [B1p h1 h1,B31]
   refine Tot.bindOf this ?_
   exact hj _ rfl
  ·subst hm
   refine Tot.iteF rfl ?_
   exact Tot.step () (E8 hi (by omega)) trivial
 ·unfold X3
  refine Tot.iteF (decide_eq_false (by omega)) ?_
  exact Tot.last rfl
theorem B0i {V:List A2→Bool}:∀ (l cur:List A2) (c:List A2),c∈ck V cur l→c.length≤cur.length+l.length
 | [],cur,c,h=>by simp [ck] at h;subst h;simp
 | p :: l,cur,c,h=>by
  simp only [ck] at h
  split at h
  ·have:=B0i l _ c h;simp at this ⊢;omega
  ·rcases List.mem_cons.1 h with rfl | h
   ·simp
   ·have:=B0i l _ c h;simp at this ⊢;omega
theorem A7e {V:List A2→Bool} {l c:List A2} (h:c∈chunks V l):c.length≤l.length:=by
 cases l with
 | nil=>cases h
 | cons p l=>have:=B0i l [p] c h;simp at this ⊢;omega
theorem B42 {l:List B8} (h:Chs l):(packF l).length≤2000000:=by
 have hlen:=h.len
 have hcl:=A09 bW (goneL l)
 have hgl:=A1j l
 have hfl:=B0h l
 have h3:((FO l).flatMap fun a=>(chunks (bA a.fNext) (sel a l)).map (uAa a)).length≤1000*(FO l).length:=A6j _ _ _ fun a _=>by
  have:=A09 (bA a.fNext) (sel a l)
  have:=A3c a l
  rw [List.length_map];omega
 unfold packF
 rw [List.length_append,List.length_map]
 omega
theorem B59 {l:List B8} (h:Chs l):∀ x∈packF l,(x.fAttrs=noD∨isD x.fAttrs)∧x.fWithdraw.length≤100000∧x.fAnnounce.length≤100000:=by
 have hlen:=h.len
 intro x hx
 unfold packF at hx
 rcases List.mem_append.1 hx with hx | hx
 ·obtain⟨c,hc,rfl⟩:=List.mem_map.1 hx
  have:=A7e hc
  have:=A1j l
  exact⟨.inl rfl,(by show c.length≤_;omega),by simp [uW]⟩
 ·obtain⟨a,ha,hx⟩:=List.mem_flatMap.1 hx
  obtain⟨c,hc,rfl⟩:=List.mem_map.1 hx
  have:=A7e hc
  have:=A3c a l
  exact⟨.inr (h.foD ha),by simp [uAa],(by show c.length≤_;omega)⟩
-- the example
def zC (p:A2):B8:=B8.mk 0 p false (V7.mk zP 0 (C8.mk 0 [] zA 0 0 0 [] [] []))
def aP:A2:=A2.mk (D0.mk false 0 167772160) 8
def bP:A2:=A2.mk (D0.mk false 0 184549376) 8
theorem aP_V:pV aP:=⟨⟨⟨by decide,by decide⟩,.inr (by decide)⟩,by decide,by decide,by decide⟩
theorem bP_V:pV bP:=⟨⟨⟨by decide,by decide⟩,.inr (by decide)⟩,by decide,by decide,by decide⟩
theorem B6f {p:A2} (h:pV p):gd (zC p):=⟨h,(fun e=>by cases e),(fun e=>by cases e)⟩
theorem B43:Chs [zC aP,zC bP]:=by
 refine⟨fun c hc => ?_,fun i hi => ?_,by simp⟩
 ·simp only [List.mem_cons,List.not_mem_nil,or_false] at hc
  rcases hc with rfl | rfl
  ·exact B6f aP_V
  ·exact B6f bP_V
 ·have:i=0:=by simp at hi;omega
  subst this
  exact .inl (.inr ⟨rfl,(by show nA aP.fAddr<nA bP.fAddr;decide)⟩)
theorem B2k:packF [zC aP,zC bP]=[uW [aP,bP]]:=by
 have e1:goneL [zC aP,zC bP]=[aP,bP]:=rfl
 have e2:FO [zC aP,zC bP]=[]:=by simp [FO,foS,zC]
 have e3:bW [aP,bP]=true:=by
  refine B2c.2 ⟨by simp,fun p hp => ?_,by decide,by decide⟩
  simp only [List.mem_cons,List.not_mem_nil,or_false] at hp
  rcases hp with rfl | rfl
  ·exact aP_V
  ·exact bP_V
 unfold packF
 rw [e1,e2]
 simp [chunks,ck,e3]
theorem B0j:A1s [uW [aP,bP]] 7=some [{ zC aP with fTo:=7 },{ zC bP with fTo:=7 }]:=by
 have f0:A0y []=some (0,false):=by unfold A0y;simp [jn]
 unfold A1s
 rw [A8]
 simp only [W7,uW,noD,List.length_cons,List.length_nil,f0]
 simp [idx]
 rw [A8]
 simp [R2,idx,chk,LIM,F3]
 rw [A8]
 simp [R2,idx,chk,LIM,F3]
 rw [A8]
 simp [R2,f0]
 rw [A8]
 simp [A0z]
 rw [A8]
 simp [W7,zC,zP,zA]
theorem B5a:A10=some true:=by
 unfold A10
 have hp:A1g [zC aP,zC bP]=some ([uW [aP,bP]],0):=by rw [B36 B43,B2k]
 refine L0 hp ?_
 refine L0 B0j ?_
 simp [jn,idx,zC,bP]
end Go.Proofs.YtkhjkjojjdkidaaGreatDoor

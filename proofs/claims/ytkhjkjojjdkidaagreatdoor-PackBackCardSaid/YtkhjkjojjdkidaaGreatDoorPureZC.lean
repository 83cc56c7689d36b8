/- Groups, what is packed, decks, the example, in plain Lean. -/
import Derived.Test.YtkhjkjojjdkidaaGreatDoorPureZB
namespace Go.Proofs.YtkhjkjojjdkidaaGreatDoor
open Go Go.Vc
structure gd (c:A6):Prop where
 val:pV c.fPrefix
 rt:c.fHas=true→c.fRoute.fPrefix=c.fPrefix
 att:c.fHas=true→∃ n x m,dOk n x m∧c.fRoute.fAttrs=mkD n x m∧bA x [c.fPrefix]=true
structure Chs (l:List A6):Prop where
 all:∀ c∈l,gd c
 asc:∀ (i:Nat) (h:i+1<l.length),pLt (l[i]'(by omega)).fPrefix l[i+1].fPrefix
 len:l.length≤1000
theorem B6n {c:A6} (h:gd c):A39 c=some true:=by
 unfold A39
 refine O5 (B0x h.val.addr.1) ?_
 rw [U8.2 h.val,if_pos rfl]
 cases hc:c.fHas with
 | false=>rfl
 | true =>
  obtain⟨n,x,m,h1,h2,h3⟩:=h.att hc
  rw [if_neg (by simp)]
  have hp:peq c.fRoute.fPrefix c.fPrefix=true:=A30.2 (h.rt hc)
  refine(if_pos hp).trans ?_
  rw [h2]
  refine O5 (B85 (by simp)) ?_
  refine O5 (B4l h1 (by simpa using h.val.addr.1) (by simp) (by simp)) ?_
  rw [h3]
def isD (a:C5):Prop:=∃ n x m,dOk n x m∧a=mkD n x m
theorem B5k {a b:C5} (ha:isD a) (hb:isD b):A0v a b=some (aD a b):=by
 obtain⟨n,x,m,_,rfl⟩:=ha
 obtain⟨n',x',m',_,rfl⟩:=hb
 exact B7q
theorem B30 {a b:C5} (ha:isD a) (hb:isD b):H4 a b=some (aD a b):=by
 obtain⟨n,x,m,_,rfl⟩:=ha
 obtain⟨n',x',m',_,rfl⟩:=hb
 exact B8i
def uAa (a:C5) (l:List A2):C9:=C9.mk [] a l
theorem filledD {a:C5} (h:isD a) {l:List A2} (hl:∀ p∈l,aR p.fAddr) (hn:l.length≤90000):R7 (C3.mk a l) true=some ((chunks (bA a.fNext) l).map (uAa a)):=by
 obtain⟨n,x,m,h,rfl⟩:=h
 exact filledA h hl hn
def goneL (l:List A6):List A2:=(l.filter fun c => !c.fHas).map (·.fPrefix)
noncomputable def sel (a:C5) (l:List A6):List A2:=(l.filter fun c=>c.fHas&&aD c.fRoute.fAttrs a).map (·.fPrefix)
open Classical in
/-- attributes in the order in which they come -/
noncomputable def foS (A:List C5) (c:A6):List C5:=if c.fHas=true∧¬ c.fRoute.fAttrs∈A then A++[c.fRoute.fAttrs] else A
noncomputable def FO (l:List A6):List C5:=l.foldl foS []
theorem A61 (l:List A6) (c:A6):FO (l++[c])=foS (FO l) c:=by unfold FO;rw [List.foldl_append];rfl
theorem B05 (l:List A6) (c:A6):goneL (l++[c])=if c.fHas=true then goneL l else goneL l++[c.fPrefix]:=by
 unfold goneL
 rw [List.filter_append,List.map_append]
 cases h:c.fHas<;>simp [h]
theorem B31 (a:C5) (l:List A6) (c:A6):sel a (l++[c])=if (c.fHas&&aD c.fRoute.fAttrs a)=true then sel a l++[c.fPrefix] else sel a l:=by
 unfold sel
 rw [List.filter_append,List.map_append]
 cases h:(c.fHas&&aD c.fRoute.fAttrs a)<;>simp [h]
theorem A62 (l:List A6):(goneL l).length≤l.length:=by unfold goneL;rw [List.length_map];exact List.length_filter_le _ _
theorem A7b (a:C5) (l:List A6):(sel a l).length≤l.length:=by unfold sel;rw [List.length_map];exact List.length_filter_le _ _
theorem A4k {l:List A6} {p:A2} (h:p∈goneL l):∃ c∈l,c.fHas=false∧c.fPrefix=p:=by
 unfold goneL at h
 obtain⟨c,hc,rfl⟩:=List.mem_map.1 h
 rw [List.mem_filter] at hc
 exact⟨c,hc.1,by simpa using hc.2,rfl⟩
theorem A3w {a:C5} {l:List A6} {p:A2} (h:p∈sel a l):∃ c∈l,c.fHas=true∧c.fRoute.fAttrs=a∧c.fPrefix=p:=by
 unfold sel at h
 obtain⟨c,hc,rfl⟩:=List.mem_map.1 h
 rw [List.mem_filter,Bool.and_eq_true,A6m] at hc
 exact⟨c,hc.1,hc.2.1,hc.2.2,rfl⟩
theorem B06:∀ (l:List A6) (a:C5),a∈FO l↔∃ c∈l,c.fHas=true∧c.fRoute.fAttrs=a:=by
 refine A5r (fun a=>by simp [FO]) (fun l c ih a => ?_)
 rw [A61]
 unfold foS
 split
 ·rename_i h
  rw [List.mem_append,ih a]
  simp only [List.mem_singleton,List.mem_append]
  constructor
  ·rintro(⟨x,hx,h1,h2⟩ | rfl)
   ·exact⟨x,.inl hx,h1,h2⟩
   ·exact⟨c,.inr rfl,h.1,rfl⟩
  ·rintro⟨x,hx | rfl,h1,h2⟩
   ·exact .inl ⟨x,hx,h1,h2⟩
   ·exact .inr h2.symm
 ·rename_i h
  rw [ih a]
  constructor
  ·rintro⟨x,hx,h1,h2⟩
   exact⟨x,List.mem_append_left _ hx,h1,h2⟩
  ·rintro⟨x,hx,h1,h2⟩
   rcases List.mem_append.1 hx with hx | hx
   ·exact⟨x,hx,h1,h2⟩
   ·cases List.mem_singleton.1 hx
    refine(ih a).1 ?_
    refine Classical.byContradiction fun hn=>h ⟨h1,?_⟩
    rw [h2];exact hn
theorem B32:∀ l:List A6,(FO l).Nodup:=by
 refine A5r (by simp [FO]) (fun l c ih => ?_)
 rw [A61]
 unfold foS
 split
 ·rename_i h
  rw [List.nodup_append]
  exact⟨ih,by simp,fun a ha b hb e=>by cases List.mem_singleton.1 hb;subst e;exact h.2 ha⟩
 ·exact ih
theorem B3y (l:List A6):(FO l).length≤l.length:=by
 revert l
 refine A5r (by simp [FO]) (fun l c ih => ?_)
 rw [A61]
 unfold foS
 split<;>simp<;>omega
theorem B7u {a:C5} {l:List A6} (h:a∉FO l):sel a l=[]:=by
 refine List.eq_nil_iff_forall_not_mem.2 fun p hp => ?_
 obtain⟨c,h1,h2,h3,_⟩:=A3w hp
 exact h ((B06 l a).2 ⟨c,h1,h2,h3⟩)
noncomputable def GR (l:List A6):List C3:=(FO l).map fun a=>C3.mk a (sel a l)
theorem B7v {A:List C5} {f:C5→List A2} {c:A6} (hA:∀ a∈A,isD a) (hc:isD c.fRoute.fAttrs) (hn:A.length≤1000):Tot (P7 (A.map fun a=>C3.mk a (f a)) c) (fun k=>(k = -1∧c.fRoute.fAttrs∉A)∨∃ (i:Nat) (h:i<A.length),k=i∧A[i]=c.fRoute.fAttrs):=by
 unfold P7
 refine Tot.bindRng A.length (fun i (_:Unit)=>(i:Int)) (fun i _=>∀ j (h:j<A.length),j<i→A[j]≠c.fRoute.fAttrs) (fun x=>(x = .inr ()∧c.fRoute.fAttrs∉A)∨∃ (i:Nat) (h:i<A.length),x = .inl (i:Int)∧A[i]=c.fRoute.fAttrs) () rfl (fun j _ h=>absurd h (by omega)) (fun i _ hi hI => ?_) (fun _ hI => ?_) (fun x hx => ?_)
 ·unfold L2
  refine Tot.iteT (decide_eq_true (by rw [List.length_map];omega)) ?_
  refine Tot.bindIdx i rfl (by rw [List.length_map];exact hi) ?_
  rw [List.getElem_map]
  have:A0a (C3.mk A[i] (f A[i])) c=some (aD A[i] c.fRoute.fAttrs):=by
   unfold A0a
   exact O5 (B5k (hA _ (List.getElem_mem hi)) hc) rfl
  refine Tot.bindOf this ?_
  refine Tot.ite (fun e=>Tot.stop (.inr ⟨i,hi,rfl,A6m.1 e⟩)) (fun e => ?_)
  refine Tot.step () (E7 hi (by omega)) fun j hj hji => ?_
  by_cases hji':j=i
  ·subst hji'
   intro e'
   rw [A6m.2 e'] at e;cases e
  ·exact hI j hj (by omega)
 ·unfold L2
  refine Tot.iteF (decide_eq_false (by rw [List.length_map];omega)) ?_
  refine Tot.last (.inl ⟨rfl,fun hm => ?_⟩)
  obtain⟨j,hj,e⟩:=List.getElem_of_mem hm
  exact hI j hj hj e
 ·rcases hx with ⟨rfl,h⟩ | ⟨i,h,rfl,e⟩
  ·exact Tot.some (.inl ⟨rfl,h⟩)
  ·exact Tot.some (.inr ⟨i,h,rfl,e⟩)
theorem B5l {A:List C5} (hA:A.Nodup) (f:C5→List A2) {i:Nat} (hi:i<A.length) (p:A2) :
  (A.map fun a=>C3.mk a (f a)).set i (C3.mk A[i] (f A[i]++[p]))=A.map fun a=>C3.mk a (if aD A[i] a=true then f a++[p] else f a):=by
 refine List.ext_getElem (by simp) fun k h1 h2 => ?_
 rw [List.getElem_set]
 by_cases e:i=k
 ·subst e
  rw [if_pos rfl,List.getElem_map,B1p,if_pos rfl]
 ·rw [if_neg e,List.getElem_map,List.getElem_map]
  have hk:k<A.length:=by simpa using h2
  have:A[i]≠A[k]:=fun e'=>e ((List.getElem_inj hA).1 e')
  rw [B8u this,if_neg (by simp)]
theorem B8l {l:List A6} {i:Nat} (h:i<(GR l).length):(GR l)[i]=C3.mk ((FO l)[i]'(by simpa [GR] using h)) (sel ((FO l)[i]'(by simpa [GR] using h)) l):=by
 exact List.getElem_map _
noncomputable def packF (l:List A6):List C9:=(chunks bW (goneL l)).map uW++(FO l).flatMap fun a=>(chunks (bA a.fNext) (sel a l)).map (uAa a)
section
variable {l:List A6}
theorem Chs.isD (h:Chs l) {c:A6} (hc:c∈l) (hh:c.fHas=true):isD c.fRoute.fAttrs:=by
 obtain⟨n,x,m,h1,h2,_⟩:=(h.all c hc).att hh
 exact⟨n,x,m,h1,h2⟩
theorem Chs.foD (h:Chs l) {a:C5} (ha:a∈FO l):Go.Proofs.YtkhjkjojjdkidaaGreatDoor.isD a:=by
 obtain⟨c,hc,h1,rfl⟩:=(B06 l a).1 ha
 exact h.isD hc h1
theorem B33 {k:Nat} {a:C5} (h:a∈FO (l.take k)):a∈FO l:=by
 obtain⟨c,hc,h1,h2⟩:=(B06 _ a).1 h
 exact(B06 _ a).2 ⟨c,List.mem_of_mem_take hc,h1,h2⟩
theorem Chs.gR (h:Chs l):∀ p∈goneL l,aR p.fAddr:=fun p hp=>by
 obtain⟨c,hc,_,rfl⟩:=A4k hp
 exact(h.all c hc).val.addr.1
theorem Chs.sR (h:Chs l) {a:C5}:∀ p∈sel a l,aR p.fAddr:=fun p hp=>by
 obtain⟨c,hc,_,_,rfl⟩:=A3w hp
 exact(h.all c hc).val.addr.1
theorem B07 {α β:Type} (f:α→List β):∀ (A:List α) (n:Nat),(∀ a∈A,(f a).length≤n)→(A.flatMap f).length≤n*A.length
 | [],n,_=>by simp
 | a :: A,n,h=>by
  have:=B07 f A n fun b hb=>h b (List.mem_cons_of_mem _ hb)
  have:=h a (List.mem_cons_self ..)
  rw [List.flatMap_cons,List.length_append,List.length_cons,Nat.mul_succ];omega
theorem B3z (h:Chs l):Tot (loop (A01 l) ((0:Int),([]:List C3),([]:List A2))) (fun x=>x = .inr (GR l,goneL l)):=by
 refine Tot.rng l.length (fun i (_:Unit)=>((i:Int),GR (l.take i),goneL (l.take i))) (fun _ _=>True) _ () rfl trivial (fun i _ hi _ => ?_) (fun _ _ => ?_)
 ·unfold A01
  refine Tot.iteT (decide_eq_true (by simp only;omega)) ?_
  have hlen:=h.len
  have hci:l[i]∈l:=List.getElem_mem hi
  have hgd:=h.all _ hci
  have hsn:l.take (i+1)=l.take i++[l[i]]:=J2 hi
  refine Tot.jnR (fun m=>m=(GR (l.take (i+1)),goneL (l.take (i+1)))) (fun j hj => ?_) (fun m hm=>Tot.step () (by rw [hm,E7 hi (by omega)]) trivial)
  refine Tot.bindIdx i rfl hi ?_
  refine Tot.jnR (fun m=>m=false) (fun j2 hj2 => ?_) (fun m hm => ?_)
  ·refine Tot.bindOf (B6n hgd) ?_
   refine Tot.iteF rfl ?_
   refine Tot.ite (fun e => ?_) (fun e=>hj2 _ rfl)
   have hi0:0<i:=by have:=of_decide_eq_true e;simp only at this;omega
   obtain⟨k,rfl⟩:∃ k,i=k+1:=⟨i-1,by omega⟩
   refine Tot.bindIdx k (B2h (n:=l.length) (by omega) (by omega)) (by omega) ?_
   refine Tot.bindOf (B7l (h.all _ (List.getElem_mem (by omega))).val.addr.1 hgd.val.addr.1) ?_
   refine hj2 _ ?_
   have:=(B1n _ _).2 (h.asc k hi)
   exact decide_eq_false (by omega)
  ·subst hm
   refine Tot.iteF rfl ?_
   cases hh:l[i].fHas with
   | false =>
    refine Tot.iteT rfl ?_
    have hgl:=A62 (l.take i)
    refine Tot.chk (limB (by simp at hgl ⊢;omega)) ?_
    refine hj _ ?_
    rw [hsn,B05,hh,if_neg (by simp)]
    have:GR (l.take i++[l[i]])=GR (l.take i):=by
     unfold GR
     rw [A61,foS,hh,if_neg (by simp)]
     refine List.map_congr_left fun a _ => ?_
     rw [B31,hh,Bool.false_and,if_neg (by simp)]
    rw [this]
   | true =>
    refine Tot.iteF rfl ?_
    have hD:=h.isD hci hh
    have hAl:=B3y (l.take i)
    have hAl':(FO (l.take i)).length≤1000:=by simp at hAl;omega
    refine Tot.bindT (B7v (A:=FO (l.take i)) (f:=fun a=>sel a (l.take i)) (c:=l[i]) (fun a ha=>h.foD (B33 ha)) hD hAl') fun k hk => ?_
    -- the groups with one that holds the attributes
    refine Tot.jnR (fun m=>∃ (q:Nat) (hq:q<(FO (l.take (i+1))).length),m=((q:Int),(FO (l.take (i+1))).map fun a=>C3.mk a (sel a (l.take i)))∧(FO (l.take (i+1)))[q]=l[i].fRoute.fAttrs) (fun j3 hj3 => ?_) (fun m hm => ?_)
    ·rcases hk with ⟨rfl,hk⟩ | ⟨q,hq,rfl,hk⟩
     ·refine Tot.iteT (by decide) ?_
      refine Tot.chk (limB (by simp [GR];omega)) ?_
      have hF:FO (l.take (i+1))=FO (l.take i)++[l[i].fRoute.fAttrs]:=by rw [hsn,A61,foS,if_pos ⟨hh,hk⟩]
      refine hj3 _ ⟨(FO (l.take i)).length,by rw [hF];simp,?_,by simp [hF]⟩
      rw [hF,List.map_append]
      simp only [GR,List.length_map,List.map_cons,List.map_nil]
      rw [B7u hk]
     ·refine Tot.iteF (decide_eq_false (by omega)) ?_
      have hF:FO (l.take (i+1))=FO (l.take i):=by
       rw [hsn,A61,foS,if_neg]
       rintro⟨_,hn⟩
       exact hn (hk ▸ List.getElem_mem hq)
      refine hj3 _ ⟨q,by rw [hF];exact hq,?_,by simp only [hF];exact hk⟩
      rw [hF];rfl
    ·obtain⟨q,hq,rfl,hk⟩:=hm
     have hq':q<((FO (l.take (i+1))).map fun a=>C3.mk a (sel a (l.take i))).length:=by rw [List.length_map];exact hq
     have hsl:=A7b l[i].fRoute.fAttrs (l.take i)
     refine Tot.bindIdx q rfl hq' ?_
     refine Tot.bindIdx q rfl hq' ?_
     refine Tot.chk (limB (by rw [List.getElem_map,hk];simp at hsl ⊢;omega)) ?_
     refine Tot.bindIdx q rfl hq' ?_
     refine Tot.bindIdx q rfl hq' ?_
     refine hj _ ?_
     have e1:goneL (l.take (i+1))=goneL (l.take i):=by rw [hsn,B05,hh,if_pos rfl]
     rw [e1]
     refine Prod.ext ?_ rfl
     have e2:=B5l (B32 (l.take (i+1))) (fun a=>sel a (l.take i)) hq l[i].fPrefix
     simp only [Int.toNat_natCast,List.getElem_map]
     refine e2.trans ?_
     unfold GR
     refine List.map_congr_left fun a _ => ?_
     conv=>rhs;rw [hsn,B31,hh,Bool.true_and]
     rw [hk]
 ·unfold A01
  refine Tot.iteF (decide_eq_false (by simp only;omega)) ?_
  refine Tot.last ?_
  rw [List.take_of_length_le (Nat.le_refl _)]
theorem B4o (h:Chs l):A1y l=some (packF l,0):=by
 refine Tot.eq ?_
 unfold A1y
 refine Tot.bindT (B3z h) fun x hx => ?_
 subst hx
 have hlen:=h.len
 refine Tot.bindOf (filledW h.gR (Nat.le_trans (A62 l) (by omega))) ?_
 have hFl:=B3y l
 have hGl:(GR l).length=(FO l).length:=by unfold GR;rw [List.length_map]
 have hcl:=A3j bW (goneL l)
 have hgl:=A62 l
 refine Tot.bindRng (FO l).length (fun i (_:Unit)=>((i:Int),(chunks bW (goneL l)).map uW++((FO l).take i).flatMap fun a=>(chunks (bA a.fNext) (sel a l)).map (uAa a))) (fun _ _=>True) (fun r=>r=packF l) () (by simp) trivial (fun i _ hi _ => ?_) (fun _ _ => ?_) (fun x hx=>Tot.some (by rw [hx]))
 ·unfold A1g
  refine Tot.iteT (decide_eq_true (by show(i:Int)<((GR l).length:Int);omega)) ?_
  refine Tot.bindIdx i rfl (show i<(GR l).length by omega) ?_
  show Tot ((R7 (GR l)[i] true).bind _) _
  rw [B8l (by omega)]
  refine Tot.bindOf (filledD (h.foD (List.getElem_mem hi)) h.sR (Nat.le_trans (A7b _ l) (by omega))) ?_
  have hsn:(FO l).take (i+1)=(FO l).take i++[(FO l)[i]]:=J2 hi
  have h1:=A3j (bA (FO l)[i].fNext) (sel (FO l)[i] l)
  have h2:=A7b (FO l)[i] l
  have h3:(((FO l).take i).flatMap fun a=>(chunks (bA a.fNext) (sel a l)).map (uAa a)).length≤1000*((FO l).take i).length:=B07 _ _ _ fun a _=>by
   have:=A3j (bA a.fNext) (sel a l)
   have:=A7b a l
   rw [List.length_map];omega
  have h4:((FO l).take i).length≤1000:=by rw [List.length_take];omega
  refine Tot.chk (limB (by simp only [List.length_append,List.length_map];omega)) ?_
  refine Tot.step () ?_ trivial
  rw [hsn,List.flatMap_append]
  refine Prod.ext (E7 hi (by omega)) (by simp)
 ·unfold A1g
  refine Tot.iteF (decide_eq_false (by show ¬ (((FO l).length:Nat):Int)<((GR l).length:Int);omega)) ?_
  refine Tot.last ?_
  rw [List.take_of_length_le (Nat.le_refl _)];rfl
end
section
variable {l:List A6}
end
theorem B6o (a m:Int) (hm:0<m) (hb:m≤4611686018427387904):I9 a m=some (a % m):=by
 obtain⟨h0,h1⟩:=B2f a hm
 unfold I9
 refine B8d (by simp;omega) ?_
 unfold jn
 rcases B56 a hm with h | ⟨h,hn⟩
 ·rw [h]
  exact B2e (by simp;omega) rfl
 ·rw [h]
  refine B2d (by simp;omega) ?_
  rw [show a % m-m+m=a % m from by omega,F5 (by omega) (by omega)]
def DeckOk (d:A7):Prop:=0≤d.fAt∧d.fAt≤d.fL.length∧d.fL.length≤9223372036854775807
theorem A5s (d:A7) (hd:DeckOk d) (n:Int) (hn:0<n) (hn':n≤4611686018427387904):Tot (F0 d n) (fun x=>0≤x.1∧x.1<n∧DeckOk x.2):=by
 obtain⟨h0,h1,h2⟩:=hd
 unfold F0
 refine Tot.ite (fun h => ?_) (fun h => ?_)
 ·exact Tot.some ⟨Int.le_refl _,hn,h0,h1,h2⟩
 ·obtain⟨k,hk⟩:∃ k:Nat,d.fAt=k:=⟨d.fAt.toNat,by omega⟩
  have hlt:k<d.fL.length:=by simp at h;omega
  obtain⟨m0,m1⟩:=B2f d.fL[k] hn
  rw [F5 (n:=d.fAt+1) (by omega) (by omega),F5 (n:=d.fAt+1-1) (by omega) (by omega)]
  refine Tot.bindIdx k (by omega) hlt (Tot.bindOf (B6o _ n hn hn') (Tot.some ⟨m0,m1,?_⟩))
  exact⟨by simp only;omega,by simp only;omega,h2⟩
theorem B8m (l:List Int) (hl:l.length≤9223372036854775807):DeckOk ⟨l,0⟩:=⟨Int.le_refl _,by simp only;omega,hl⟩
def mP (k:Nat):A2:=A2.mk (C4.mk false 0 ((335544320+k*256:Nat):Int)) 24
def mX:C4:=C4.mk false 0 7
theorem B8x {m:Int} (h:0≤m∧m<2):dOk 101 mX m :=
 ⟨by omega,⟨⟨by decide,by decide⟩,.inr (by decide)⟩,by decide,by omega⟩
theorem mP_n (k:Nat):nA (mP k).fAddr=335544320+k*256:=by
 show(0:Int).toNat*18446744073709551616+(((335544320+k*256:Nat):Int)).toNat=_
 rw [Int.toNat_natCast];simp
theorem mP_V {k:Nat} (h:k≤60000):pV (mP k):=by
 refine⟨⟨⟨(by show(0:Int)≤0∧(0:Int)<18446744073709551616;decide),?_⟩,.inr ⟨rfl,?_⟩⟩,(by show(0:Int)≤24;decide),(by show(24:Int)≤((wid false:Nat):Int);decide),?_⟩
 ·show(0:Int)≤((335544320+k*256:Nat):Int)∧((335544320+k*256:Nat):Int)<18446744073709551616
  omega
 ·show((335544320+k*256:Nat):Int)<4294967296
  omega
 ·rw [mP_n]
  show cut (335544320+k*256) 8=_
  unfold cut
  omega
theorem B8y {k:Nat}:pLt (mP k) (mP (k+1)):=.inl (.inr ⟨rfl,by rw [mP_n,mP_n];omega⟩)
theorem mP_A {k:Nat} (h:k≤60000):bA mX [mP k]=true:=by
 refine A6p.2 ⟨by simp,?_,?_,(by show aa mX 0≤2048;decide),?_⟩
 ·intro p hp;rw [List.mem_singleton.1 hp];exact mP_V h
 ·intro p hp;rw [List.mem_singleton.1 hp];rfl
 ·have e1:clen true [mP k]=0:=by simp [clen,mP]
  have e2:clen false [mP k]=4:=by simp [clen,mP,pc]
  rw [e1,e2];decide
def zR:C7:=C7.mk zP 0 (C5.mk 0 [] zA 0 0 0 [] [] [])
structure rt (c:A6):Prop where
 val:pV c.fPrefix
 z:c.fHas=false→c.fRoute=zR
 h:c.fHas=true→∃ n x m,dOk n x m∧c.fRoute=C7.mk c.fPrefix n (mkD n x m)∧bA x [c.fPrefix]=true
theorem rt.gd {c:A6} (h:rt c):gd c:=by
 refine⟨h.val,fun e => ?_,fun e => ?_⟩
 ·obtain⟨n,x,m,_,h2,_⟩:=h.h e
  rw [h2]
 ·obtain⟨n,x,m,h1,h2,h3⟩:=h.h e
  exact⟨n,x,m,h1,by rw [h2],h3⟩
structure mOk (k:Nat) (c:A6):Prop where
 p:c.fPrefix=mP k
 r:c.fHas=true→∃ m:Int,(0≤m∧m<2)∧c.fRoute=C7.mk (mP k) 101 (mkD 101 mX m)
 z:c.fHas=false→c.fRoute=zR
theorem mOk.rt {k:Nat} {c:A6} (h:mOk k c) (hk:k≤60000):rt c:=by
 refine⟨by rw [h.p];exact mP_V hk,h.z,fun e => ?_⟩
 obtain⟨m,hm,ha⟩:=h.r e
 exact⟨101,mX,m,B8x hm,by rw [ha,h.p],by rw [h.p];exact mP_A hk⟩
theorem B7w {l:List A6} (hl:l.length≤1000) (h:∀ (k:Nat) (hk:k<l.length),mOk k l[k]):Chs l:=by
 refine⟨fun c hc => ?_,fun i hi => ?_,hl⟩
 ·obtain⟨k,hk,rfl⟩:=List.getElem_of_mem hc
  exact((h k hk).rt (by omega)).gd
 ·rw [(h i (by omega)).p,(h (i+1) hi).p]
  exact B8y
theorem B7x {k:Nat} (h:k≤60000):bitI .or .u64 (335544320:Int) (shlI .u64 (IntKind.u64.wrap (k:Int)) (8:Int))=((335544320+k*256:Nat):Int):=by
 rw [A2z (by omega),show(8:Int)=((8:Nat):Int) from rfl,A75 k 8 (by omega),show(335544320:Int)=((335544320:Nat):Int) from rfl]
 have e:k*2 ^ 8 % 18446744073709551616=k*256:=by omega
 rw [e,B3s (by omega) (by omega)]
 congr 1
 have:=Nat.two_pow_add_eq_or_of_lt (i:=24) (b:=k*256) (by omega) 20
 rw [show 2 ^ 24*20=335544320 from rfl] at this
 omega
theorem B6p (d:A7) (hd:DeckOk d) {n:Nat} (hn:n≤1000):Tot (A2i d (n:Int)) (fun r=>r.1.length=n∧∀ (k:Nat) (hk:k<r.1.length),mOk k r.1[k]):=by
 unfold A2i
 refine Tot.bindRng (β:=List A6×A7) n (fun i b=>((i:Int),b.1,b.2)) (fun i b=>(b.1.length=i∧∀ (k:Nat) (hk:k<b.1.length),mOk k b.1[k])∧DeckOk b.2) (fun p=>p.2.length=n∧∀ (k:Nat) (hk:k<p.2.length),mOk k p.2[k]) ([],d) rfl ⟨⟨rfl,fun k hk=>absurd hk (by simp)⟩,hd⟩ (fun i b hi hI => ?_) (fun b hI => ?_) (fun p hp=>Tot.some hp)
 ·obtain⟨bl,bd⟩:=b
  obtain⟨⟨h1,h2⟩,h3⟩:=hI
  simp only at h1 h2 h3
  unfold Z4
  refine Tot.iteT (decide_eq_true (show(i:Int)<(n:Int) by omega)) ?_
  refine Tot.bindT (A5s bd h3 3 (by omega) (by omega)) fun r hr => ?_
  have key:∀ {c:A6},mOk i c→(bl++[c]).length=i+1∧∀ (k:Nat) (hk:k<(bl++[c]).length),mOk k (bl++[c])[k]:=fun {c} hc=>by
   refine⟨by simp [h1],fun k hk => ?_⟩
   rw [List.getElem_append]
   split
   ·rename_i hk'
    exact h2 k hk'
   ·rename_i hk'
    have:k=i:=by simp at hk;omega
    subst this
    simpa using hc
  have hw:=B7x (k:=i) (by omega)
  refine Tot.jnR (fun m=>(m.1=true→m.2.1=((335544320+i*256:Nat):Int)∧m.2.2.1=24∧m.2.2.2.1=101∧m.2.2.2.2.1=[A9.mk false [101]]∧m.2.2.2.2.2.1=7∧(0≤m.2.2.2.2.2.2.1∧m.2.2.2.2.2.2.1<2)∧m.2.2.2.2.2.2.2.1 = -1∧m.2.2.2.2.2.2.2.2.1 = -1∧m.2.2.2.2.2.2.2.2.2.1=[]∧m.2.2.2.2.2.2.2.2.2.2.1=[]∧m.2.2.2.2.2.2.2.2.2.2.2.1=[])∧(m.1=false→m=(false,0,0,0,[],0,0,0,0,[],[],[],m.2.2.2.2.2.2.2.2.2.2.2.2))∧DeckOk m.2.2.2.2.2.2.2.2.2.2.2.2) (fun j hj => ?_) (fun m hm => ?_)
  ·refine Tot.ite (fun e => ?_) (fun e => ?_)
   ·refine Tot.bindOf A7n ?_
    refine Tot.bindT (A5s r.2 hr.2.2 2 (by omega) (by omega)) fun r2 hr2 => ?_
    exact hj _ ⟨fun _=>⟨hw,rfl,rfl,rfl,rfl,⟨hr2.1,hr2.2.1⟩,rfl,rfl,rfl,rfl,rfl⟩,(fun e=>by cases e),hr2.2.2⟩
   ·exact hj _ ⟨(fun e=>by cases e),fun _=>rfl,hr.2.2⟩
  ·obtain⟨m1,m2,m3,m4,m5,m6,m7,m8,m9,m10,m11,m12,m13⟩:=m
   obtain⟨hm1,hm0,hm2⟩:=hm
   simp only at hm1 hm0 hm2
   refine Tot.chk (limB (by simp;omega)) ?_
   refine Tot.step (_,m13) (by rw [E7 hi (by omega)]) ⟨key ⟨?_,fun e => ?_,fun e => ?_⟩,hm2⟩
   ·simp only [hw];rfl
   ·obtain⟨e1,e2,e11,e3,e4,e5,e6,e7,e8,e9,e10⟩:=hm1 e
    refine⟨m7,e5,?_⟩
    simp only [e1,e2,e3,e4,e6,e7,e8,e9,e10,e11];rfl
   ·have e':=hm0 e
    simp only [Prod.mk.injEq] at e'
    obtain⟨e1,e2,e3,e4,e5,e6,e7,e8,e9,e10,e11,e12,_⟩:=e'
    simp only [e2,e3,e4,e5,e6,e7,e8,e9,e10,e11,e12];rfl
 ·unfold Z4
  refine Tot.iteF (decide_eq_false (show ¬ (n:Int)<(n:Int) by omega)) ?_
  exact Tot.last hI.1
-- comparing with itself
theorem B13 {l:List A6} (h:Chs l):(packF l).length≤2000000:=by
 have hlen:=h.len
 have hcl:=A3j bW (goneL l)
 have hgl:=A62 l
 have hfl:=B3y l
 have h3:((FO l).flatMap fun a=>(chunks (bA a.fNext) (sel a l)).map (uAa a)).length≤1000*(FO l).length:=B07 _ _ _ fun a _=>by
  have:=A3j (bA a.fNext) (sel a l)
  have:=A7b a l
  rw [List.length_map];omega
 unfold packF
 rw [List.length_append,List.length_map]
 omega
-- the example
def zC (p:A2):A6:=A6.mk 0 p false (C7.mk zP 0 (C5.mk 0 [] zA 0 0 0 [] [] []))
def aP:A2:=A2.mk (C4.mk false 0 167772160) 8
def bP:A2:=A2.mk (C4.mk false 0 184549376) 8
theorem aP_V:pV aP:=⟨⟨⟨by decide,by decide⟩,.inr (by decide)⟩,by decide,by decide,by decide⟩
theorem bP_V:pV bP:=⟨⟨⟨by decide,by decide⟩,.inr (by decide)⟩,by decide,by decide,by decide⟩
theorem B86 {p:A2} (h:pV p):gd (zC p):=⟨h,(fun e=>by cases e),(fun e=>by cases e)⟩
theorem B5m:Chs [zC aP,zC bP]:=by
 refine⟨fun c hc => ?_,fun i hi => ?_,by simp⟩
 ·simp only [List.mem_cons,List.not_mem_nil,or_false] at hc
  rcases hc with rfl | rfl
  ·exact B86 aP_V
  ·exact B86 bP_V
 ·have:i=0:=by simp at hi;omega
  subst this
  exact .inl (.inr ⟨rfl,(by show nA aP.fAddr<nA bP.fAddr;decide)⟩)
theorem B40:packF [zC aP,zC bP]=[uW [aP,bP]]:=by
 have e1:goneL [zC aP,zC bP]=[aP,bP]:=rfl
 have e2:FO [zC aP,zC bP]=[]:=by simp [FO,foS,zC]
 have e3:bW [aP,bP]=true:=by
  refine A6o.2 ⟨by simp,fun p hp => ?_,by decide,by decide⟩
  simp only [List.mem_cons,List.not_mem_nil,or_false] at hp
  rcases hp with rfl | rfl
  ·exact aP_V
  ·exact bP_V
 unfold packF
 rw [e1,e2]
 simp [chunks,ck,e3]
theorem B1s:T7 [uW [aP,bP]] 7=some [{ zC aP with fTo:=7 },{ zC bP with fTo:=7 }]:=by
 have f0:M2 []=some (0,false):=by unfold M2;simp [jn]
 unfold T7
 rw [B2]
 simp only [P9,uW,noD,List.length_cons,List.length_nil,f0]
 simp [idx]
 rw [B2]
 simp [K4,idx,chk,LIM,F5]
 rw [B2]
 simp [K4,idx,chk,LIM,F5]
 rw [B2]
 simp [K4,f0]
 rw [B2]
 simp [P8]
 rw [B2]
 simp [P9,zC,zP,zA]
theorem B6q:A1h=some true:=by
 unfold A1h
 have hp:A1y [zC aP,zC bP]=some ([uW [aP,bP]],0):=by rw [B4o B5m,B40]
 refine O5 hp ?_
 refine O5 B1s ?_
 simp [jn,idx,zC,bP]
end Go.Proofs.YtkhjkjojjdkidaaGreatDoor

/- Groups, what is packed, decks, in plain Lean. -/
import Derived.Test.YtplbaenjbihekaaGreatDoorPureZB
import Derived.Test.YtplbaenjbihekaaGreatDoorVcMI
namespace Go.Proofs.YtplbaenjbihekaaGreatDoor
open Go Go.Vc
structure gd (c:A1):Prop where
 val:pV c.fPrefix
 rt:c.fHas=true→c.fRoute.fPrefix=c.fPrefix
 att:c.fHas=true→∃ n x m,dOk n x m∧c.fRoute.fAttrs=mkD n x m∧bA x [c.fPrefix]=true
structure Chs (l:List A1):Prop where
 all:∀ c∈l,gd c
 asc:∀ (i:Nat) (h:i+1<l.length),pLt (l[i]'(by omega)).fPrefix l[i+1].fPrefix
 len:l.length≤1000
theorem B4y {c:A1} (h:gd c):A2e c=some true:=by
 unfold A2e
 refine K7 (A9p h.val.addr.1) ?_
 rw [A1h.2 h.val,if_pos rfl]
 cases hc:c.fHas with
 | false=>rfl
 | true =>
  obtain⟨n,x,m,h1,h2,h3⟩:=h.att hc
  rw [if_neg (by simp)]
  have hp:peq c.fRoute.fPrefix c.fPrefix=true:=A17.2 (h.rt hc)
  refine(if_pos hp).trans ?_
  rw [h2]
  refine K7 (B6d (by simp)) ?_
  refine K7 (B39 h1 (by simpa using h.val.addr.1) (by simp) (by simp)) ?_
  rw [h3]
def isD (a:D9):Prop:=∃ n x m,dOk n x m∧a=mkD n x m
theorem B42 {a b:D9} (ha:isD a) (hb:isD b):A0d a b=some (aD a b):=by
 obtain⟨n,x,m,_,rfl⟩:=ha
 obtain⟨n',x',m',_,rfl⟩:=hb
 exact B5v
theorem B1k {a b:D9} (ha:isD a) (hb:isD b):I0 a b=some (aD a b):=by
 obtain⟨n,x,m,_,rfl⟩:=ha
 obtain⟨n',x',m',_,rfl⟩:=hb
 exact B6m
def uAa (a:D9) (l:List A0):C9:=C9.mk [] a l
theorem filledD {a:D9} (h:isD a) {l:List A0} (hl:∀ p∈l,aR p.fAddr) (hn:l.length≤90000):Q9 (D5.mk a l) true=some ((chunks (bA a.fNext) l).map (uAa a)):=by
 obtain⟨n,x,m,h,rfl⟩:=h
 exact filledA h hl hn
def goneL (l:List A1):List A0:=(l.filter fun c => !c.fHas).map (·.fPrefix)
noncomputable def sel (a:D9) (l:List A1):List A0:=(l.filter fun c=>c.fHas&&aD c.fRoute.fAttrs a).map (·.fPrefix)
open Classical in
/-- attributes in the order in which they come -/
noncomputable def foS (A:List D9) (c:A1):List D9:=if c.fHas=true∧¬ c.fRoute.fAttrs∈A then A++[c.fRoute.fAttrs] else A
noncomputable def FO (l:List A1):List D9:=l.foldl foS []
theorem A5c (l:List A1) (c:A1):FO (l++[c])=foS (FO l) c:=by unfold FO;rw [List.foldl_append];rfl
theorem A8t (l:List A1) (c:A1):goneL (l++[c])=if c.fHas=true then goneL l else goneL l++[c.fPrefix]:=by
 unfold goneL
 rw [List.filter_append,List.map_append]
 cases h:c.fHas<;>simp [h]
theorem B1l (a:D9) (l:List A1) (c:A1):sel a (l++[c])=if (c.fHas&&aD c.fRoute.fAttrs a)=true then sel a l++[c.fPrefix] else sel a l:=by
 unfold sel
 rw [List.filter_append,List.map_append]
 cases h:(c.fHas&&aD c.fRoute.fAttrs a)<;>simp [h]
theorem A3k (l:List A1):(goneL l).length≤l.length:=by unfold goneL;rw [List.length_map];exact List.length_filter_le _ _
theorem A5d (a:D9) (l:List A1):(sel a l).length≤l.length:=by unfold sel;rw [List.length_map];exact List.length_filter_le _ _
theorem A3l {l:List A1} {p:A0} (h:p∈goneL l):∃ c∈l,c.fHas=false∧c.fPrefix=p:=by
 unfold goneL at h
 obtain⟨c,hc,rfl⟩:=List.mem_map.1 h
 rw [List.mem_filter] at hc
 exact⟨c,hc.1,by simpa using hc.2,rfl⟩
theorem A2s {a:D9} {l:List A1} {p:A0} (h:p∈sel a l):∃ c∈l,c.fHas=true∧c.fRoute.fAttrs=a∧c.fPrefix=p:=by
 unfold sel at h
 obtain⟨c,hc,rfl⟩:=List.mem_map.1 h
 rw [List.mem_filter,Bool.and_eq_true,A5t] at hc
 exact⟨c,hc.1,hc.2.1,hc.2.2,rfl⟩
theorem A8u:∀ (l:List A1) (a:D9),a∈FO l↔∃ c∈l,c.fHas=true∧c.fRoute.fAttrs=a:=by
 refine A1u (fun a=>by simp [FO]) (fun l c ih a => ?_)
 rw [A5c]
 unfold foS
 split
 ·rename_i h
  rw [List.mem_append,ih a]
  simp only [List.mem_singleton,List.mem_append]
  constructor
  ·rintro(⟨x,hx,h1,h2⟩ | rfl)
   ·exact⟨x,.inl hx,h1,h2⟩
   ·exact⟨c,.inr rfl,h.1,rfl⟩
  ·rintro⟨x,hx | rfl,h1,h2⟩
   ·exact .inl ⟨x,hx,h1,h2⟩
   ·exact .inr h2.symm
 ·rename_i h
  rw [ih a]
  constructor
  ·rintro⟨x,hx,h1,h2⟩
   exact⟨x,List.mem_append_left _ hx,h1,h2⟩
  ·rintro⟨x,hx,h1,h2⟩
   rcases List.mem_append.1 hx with hx | hx
   ·exact⟨x,hx,h1,h2⟩
   ·cases List.mem_singleton.1 hx
    refine(ih a).1 ?_
    refine Classical.byContradiction fun hn=>h ⟨h1,?_⟩
    rw [h2];exact hn
theorem B1m:∀ l:List A1,(FO l).Nodup:=by
 refine A1u (by simp [FO]) (fun l c ih => ?_)
 rw [A5c]
 unfold foS
 split
 ·rename_i h
  rw [List.nodup_append]
  exact⟨ih,by simp,fun a ha b hb e=>by cases List.mem_singleton.1 hb;subst e;exact h.2 ha⟩
 ·exact ih
theorem B2k (l:List A1):(FO l).length≤l.length:=by
 revert l
 refine A1u (by simp [FO]) (fun l c ih => ?_)
 rw [A5c]
 unfold foS
 split<;>simp<;>omega
theorem B5z {a:D9} {l:List A1} (h:a∉FO l):sel a l=[]:=by
 refine List.eq_nil_iff_forall_not_mem.2 fun p hp => ?_
 obtain⟨c,h1,h2,h3,_⟩:=A2s hp
 exact h ((A8u l a).2 ⟨c,h1,h2,h3⟩)
noncomputable def GR (l:List A1):List D5:=(FO l).map fun a=>D5.mk a (sel a l)
theorem B60 {A:List D9} {f:D9→List A0} {c:A1} (hA:∀ a∈A,isD a) (hc:isD c.fRoute.fAttrs) (hn:A.length≤1000):Tot (P3 (A.map fun a=>D5.mk a (f a)) c) (fun k=>(k = -1∧c.fRoute.fAttrs∉A)∨∃ (i:Nat) (h:i<A.length),k=i∧A[i]=c.fRoute.fAttrs):=by
 unfold P3
 refine Tot.bindRng A.length (fun i (_:Unit)=>(i:Int)) (fun i _=>∀ j (h:j<A.length),j<i→A[j]≠c.fRoute.fAttrs) (fun x=>(x = .inr ()∧c.fRoute.fAttrs∉A)∨∃ (i:Nat) (h:i<A.length),x = .inl (i:Int)∧A[i]=c.fRoute.fAttrs) () rfl (fun j _ h=>absurd h (by omega)) (fun i _ hi hI => ?_) (fun _ hI => ?_) (fun x hx => ?_)
 ·unfold L3
  refine Tot.iteT (decide_eq_true (by rw [List.length_map];omega)) ?_
  refine Tot.bindIdx i rfl (by rw [List.length_map];exact hi) ?_
  rw [List.getElem_map]
  have:A00 (D5.mk A[i] (f A[i])) c=some (aD A[i] c.fRoute.fAttrs):=by
   unfold A00
   exact K7 (B42 (hA _ (List.getElem_mem hi)) hc) rfl
  refine Tot.bindOf this ?_
  refine Tot.ite (fun e=>Tot.stop (.inr ⟨i,hi,rfl,A5t.1 e⟩)) (fun e => ?_)
  refine Tot.step () (F3 hi (by omega)) fun j hj hji => ?_
  by_cases hji':j=i
  ·subst hji'
   intro e'
   rw [A5t.2 e'] at e;cases e
  ·exact hI j hj (by omega)
 ·unfold L3
  refine Tot.iteF (decide_eq_false (by rw [List.length_map];omega)) ?_
  refine Tot.last (.inl ⟨rfl,fun hm => ?_⟩)
  obtain⟨j,hj,e⟩:=List.getElem_of_mem hm
  exact hI j hj hj e
 ·rcases hx with ⟨rfl,h⟩ | ⟨i,h,rfl,e⟩
  ·exact Tot.some (.inl ⟨rfl,h⟩)
  ·exact Tot.some (.inr ⟨i,h,rfl,e⟩)
theorem B43 {A:List D9} (hA:A.Nodup) (f:D9→List A0) {i:Nat} (hi:i<A.length) (p:A0) :
  (A.map fun a=>D5.mk a (f a)).set i (D5.mk A[i] (f A[i]++[p]))=A.map fun a=>D5.mk a (if aD A[i] a=true then f a++[p] else f a):=by
 refine List.ext_getElem (by simp) fun k h1 h2 => ?_
 rw [List.getElem_set]
 by_cases e:i=k
 ·subst e
  rw [if_pos rfl,List.getElem_map,B06,if_pos rfl]
 ·rw [if_neg e,List.getElem_map,List.getElem_map]
  have hk:k<A.length:=by simpa using h2
  have:A[i]≠A[k]:=fun e'=>e ((List.getElem_inj hA).1 e')
  rw [B6z this,if_neg (by simp)]
theorem B6p {l:List A1} {i:Nat} (h:i<(GR l).length):(GR l)[i]=D5.mk ((FO l)[i]'(by simpa [GR] using h)) (sel ((FO l)[i]'(by simpa [GR] using h)) l):=by
 exact List.getElem_map _
noncomputable def packF (l:List A1):List C9:=(chunks bW (goneL l)).map uW++(FO l).flatMap fun a=>(chunks (bA a.fNext) (sel a l)).map (uAa a)
section
variable {l:List A1}
theorem Chs.isD (h:Chs l) {c:A1} (hc:c∈l) (hh:c.fHas=true):isD c.fRoute.fAttrs:=by
 obtain⟨n,x,m,h1,h2,_⟩:=(h.all c hc).att hh
 exact⟨n,x,m,h1,h2⟩
theorem Chs.foD (h:Chs l) {a:D9} (ha:a∈FO l):Go.Proofs.YtplbaenjbihekaaGreatDoor.isD a:=by
 obtain⟨c,hc,h1,rfl⟩:=(A8u l a).1 ha
 exact h.isD hc h1
theorem B1n {k:Nat} {a:D9} (h:a∈FO (l.take k)):a∈FO l:=by
 obtain⟨c,hc,h1,h2⟩:=(A8u _ a).1 h
 exact(A8u _ a).2 ⟨c,List.mem_of_mem_take hc,h1,h2⟩
theorem Chs.gR (h:Chs l):∀ p∈goneL l,aR p.fAddr:=fun p hp=>by
 obtain⟨c,hc,_,rfl⟩:=A3l hp
 exact(h.all c hc).val.addr.1
theorem Chs.sR (h:Chs l) {a:D9}:∀ p∈sel a l,aR p.fAddr:=fun p hp=>by
 obtain⟨c,hc,_,_,rfl⟩:=A2s hp
 exact(h.all c hc).val.addr.1
theorem A8v {α β:Type} (f:α→List β):∀ (A:List α) (n:Nat),(∀ a∈A,(f a).length≤n)→(A.flatMap f).length≤n*A.length
 | [],n,_=>by simp
 | a :: A,n,h=>by
  have:=A8v f A n fun b hb=>h b (List.mem_cons_of_mem _ hb)
  have:=h a (List.mem_cons_self ..)
  rw [List.flatMap_cons,List.length_append,List.length_cons,Nat.mul_succ];omega
theorem B2l (h:Chs l):Tot (loop (Y7 l) ((0:Int),([]:List D5),([]:List A0))) (fun x=>x = .inr (GR l,goneL l)):=by
 refine Tot.rng l.length (fun i (_:Unit)=>((i:Int),GR (l.take i),goneL (l.take i))) (fun _ _=>True) _ () rfl trivial (fun i _ hi _ => ?_) (fun _ _ => ?_)
 ·unfold Y7
  refine Tot.iteT (decide_eq_true (by simp only;omega)) ?_
  have hlen:=h.len
  have hci:l[i]∈l:=List.getElem_mem hi
  have hgd:=h.all _ hci
  have hsn:l.take (i+1)=l.take i++[l[i]]:=G8 hi
  refine Tot.jnR (fun m=>m=(GR (l.take (i+1)),goneL (l.take (i+1)))) (fun j hj => ?_) (fun m hm=>Tot.step () (by rw [hm,F3 hi (by omega)]) trivial)
  refine Tot.bindIdx i rfl hi ?_
  refine Tot.jnR (fun m=>m=false) (fun j2 hj2 => ?_) (fun m hm => ?_)
  ·refine Tot.bindOf (B4y hgd) ?_
   refine Tot.iteF rfl ?_
   refine Tot.ite (fun e => ?_) (fun e=>hj2 _ rfl)
   have hi0:0<i:=by have:=of_decide_eq_true e;simp only at this;omega
   obtain⟨k,rfl⟩:∃ k,i=k+1:=⟨i-1,by omega⟩
   refine Tot.bindIdx k (B14 (n:=l.length) (by omega) (by omega)) (by omega) ?_
   refine Tot.bindOf (B36 (h.all _ (List.getElem_mem (by omega))).val.addr.1 hgd.val.addr.1) ?_
   refine hj2 _ ?_
   have:=(A5a _ _).2 (h.asc k hi)
   exact decide_eq_false (by omega)
  ·subst hm
   refine Tot.iteF rfl ?_
   cases hh:l[i].fHas with
   | false =>
    refine Tot.iteT rfl ?_
    have hgl:=A3k (l.take i)
    refine Tot.chk (limB (by simp at hgl ⊢;omega)) ?_
    refine hj _ ?_
    rw [hsn,A8t,hh,if_neg (by simp)]
    have:GR (l.take i++[l[i]])=GR (l.take i):=by
     unfold GR
     rw [A5c,foS,hh,if_neg (by simp)]
     refine List.map_congr_left fun a _ => ?_
     rw [B1l,hh,Bool.false_and,if_neg (by simp)]
    rw [this]
   | true =>
    refine Tot.iteF rfl ?_
    have hD:=h.isD hci hh
    have hAl:=B2k (l.take i)
    have hAl':(FO (l.take i)).length≤1000:=by simp at hAl;omega
    refine Tot.bindT (B60 (A:=FO (l.take i)) (f:=fun a=>sel a (l.take i)) (c:=l[i]) (fun a ha=>h.foD (B1n ha)) hD hAl') fun k hk => ?_
    -- the groups with one that holds the attributes
    refine Tot.jnR (fun m=>∃ (q:Nat) (hq:q<(FO (l.take (i+1))).length),m=((q:Int),(FO (l.take (i+1))).map fun a=>D5.mk a (sel a (l.take i)))∧(FO (l.take (i+1)))[q]=l[i].fRoute.fAttrs) (fun j3 hj3 => ?_) (fun m hm => ?_)
    ·rcases hk with ⟨rfl,hk⟩ | ⟨q,hq,rfl,hk⟩
     ·refine Tot.iteT (by decide) ?_
      refine Tot.chk (limB (by simp [GR];omega)) ?_
      have hF:FO (l.take (i+1))=FO (l.take i)++[l[i].fRoute.fAttrs]:=by rw [hsn,A5c,foS,if_pos ⟨hh,hk⟩]
      refine hj3 _ ⟨(FO (l.take i)).length,by rw [hF];simp,?_,by simp [hF]⟩
      rw [hF,List.map_append]
      simp only [GR,List.length_map,List.map_cons,List.map_nil]
      rw [B5z hk]
     ·refine Tot.iteF (decide_eq_false (by omega)) ?_
      have hF:FO (l.take (i+1))=FO (l.take i):=by
       rw [hsn,A5c,foS,if_neg]
       rintro⟨_,hn⟩
       exact hn (hk ▸ List.getElem_mem hq)
      refine hj3 _ ⟨q,by rw [hF];exact hq,?_,by simp only [hF];exact hk⟩
      rw [hF];rfl
    ·obtain⟨q,hq,rfl,hk⟩:=hm
     have hq':q<((FO (l.take (i+1))).map fun a=>D5.mk a (sel a (l.take i))).length:=by rw [List.length_map];exact hq
     have hsl:=A5d l[i].fRoute.fAttrs (l.take i)
     refine Tot.bindIdx q rfl hq' ?_
     refine Tot.bindIdx q rfl hq' ?_
     refine Tot.chk (limB (by rw [List.getElem_map,hk];simp at hsl ⊢;omega)) ?_
     refine Tot.bindIdx q rfl hq' ?_
     refine Tot.bindIdx q rfl hq' ?_
     refine hj _ ?_
     have e1:goneL (l.take (i+1))=goneL (l.take i):=by rw [hsn,A8t,hh,if_pos rfl]
     rw [e1]
     refine Prod.ext ?_ rfl
     have e2:=B43 (B1m (l.take (i+1))) (fun a=>sel a (l.take i)) hq l[i].fPrefix
     simp only [Int.toNat_natCast,List.getElem_map]
     refine e2.trans ?_
     unfold GR
     refine List.map_congr_left fun a _ => ?_
     conv=>rhs;rw [hsn,B1l,hh,Bool.true_and]
     rw [hk]
 ·unfold Y7
  refine Tot.iteF (decide_eq_false (by simp only;omega)) ?_
  refine Tot.last ?_
  rw [List.take_of_length_le (Nat.le_refl _)]
theorem B3a (h:Chs l):A26 l=some (packF l,0):=by
 refine Tot.eq ?_
 unfold A26
 refine Tot.bindT (B2l h) fun x hx => ?_
 subst hx
 have hlen:=h.len
 refine Tot.bindOf (filledW h.gR (Nat.le_trans (A3k l) (by omega))) ?_
 have hFl:=B2k l
 have hGl:(GR l).length=(FO l).length:=by unfold GR;rw [List.length_map]
 have hcl:=A2h bW (goneL l)
 have hgl:=A3k l
 refine Tot.bindRng (FO l).length (fun i (_:Unit)=>((i:Int),(chunks bW (goneL l)).map uW++((FO l).take i).flatMap fun a=>(chunks (bA a.fNext) (sel a l)).map (uAa a))) (fun _ _=>True) (fun r=>r=packF l) () (by simp) trivial (fun i _ hi _ => ?_) (fun _ _ => ?_) (fun x hx=>Tot.some (by rw [hx]))
 ·unfold A0z
  refine Tot.iteT (decide_eq_true (by show(i:Int)<((GR l).length:Int);omega)) ?_
  refine Tot.bindIdx i rfl (show i<(GR l).length by omega) ?_
  show Tot ((Q9 (GR l)[i] true).bind _) _
  rw [B6p (by omega)]
  refine Tot.bindOf (filledD (h.foD (List.getElem_mem hi)) h.sR (Nat.le_trans (A5d _ l) (by omega))) ?_
  have hsn:(FO l).take (i+1)=(FO l).take i++[(FO l)[i]]:=G8 hi
  have h1:=A2h (bA (FO l)[i].fNext) (sel (FO l)[i] l)
  have h2:=A5d (FO l)[i] l
  have h3:(((FO l).take i).flatMap fun a=>(chunks (bA a.fNext) (sel a l)).map (uAa a)).length≤1000*((FO l).take i).length:=A8v _ _ _ fun a _=>by
   have:=A2h (bA a.fNext) (sel a l)
   have:=A5d a l
   rw [List.length_map];omega
  have h4:((FO l).take i).length≤1000:=by rw [List.length_take];omega
  refine Tot.chk (limB (by simp only [List.length_append,List.length_map];omega)) ?_
  refine Tot.step () ?_ trivial
  rw [hsn,List.flatMap_append]
  refine Prod.ext (F3 hi (by omega)) (by simp)
 ·unfold A0z
  refine Tot.iteF (decide_eq_false (by show ¬ (((FO l).length:Nat):Int)<((GR l).length:Int);omega)) ?_
  refine Tot.last ?_
  rw [List.take_of_length_le (Nat.le_refl _)];rfl
end
section
variable {l:List A1}
theorem B4z {a:D9} (h:isD a):K0 a=some a:=by
 obtain⟨n,x,m,_,rfl⟩:=h
 exact B2f
end
theorem B6q (a m:Int) (hm:0<m) (hb:m≤4611686018427387904):K8 a m=some (a % m):=by
 obtain⟨h0,h1⟩:=B12 a hm
 unfold K8
 refine B6i (by simp;omega) ?_
 unfold jn
 rcases B3v a hm with h | ⟨h,hn⟩
 ·rw [h]
  exact B11 (by simp;omega) rfl
 ·rw [h]
  refine B10 (by simp;omega) ?_
  rw [show a % m-m+m=a % m from by omega,I3 (by omega) (by omega)]
def DeckOk (d:C4):Prop:=0≤d.fAt∧d.fAt≤d.fL.length∧d.fL.length≤9223372036854775807
theorem A4z (d:C4) (hd:DeckOk d) (n:Int) (hn:0<n) (hn':n≤4611686018427387904):Tot (G2 d n) (fun x=>0≤x.1∧x.1<n∧DeckOk x.2):=by
 obtain⟨h0,h1,h2⟩:=hd
 unfold G2
 refine Tot.ite (fun h => ?_) (fun h => ?_)
 ·exact Tot.some ⟨Int.le_refl _,hn,h0,h1,h2⟩
 ·obtain⟨k,hk⟩:∃ k:Nat,d.fAt=k:=⟨d.fAt.toNat,by omega⟩
  have hlt:k<d.fL.length:=by simp at h;omega
  obtain⟨m0,m1⟩:=B12 d.fL[k] hn
  rw [I3 (n:=d.fAt+1) (by omega) (by omega),I3 (n:=d.fAt+1-1) (by omega) (by omega)]
  refine Tot.bindIdx k (by omega) hlt (Tot.bindOf (B6q _ n hn hn') (Tot.some ⟨m0,m1,?_⟩))
  exact⟨by simp only;omega,by simp only;omega,h2⟩
theorem B6r (l:List Int) (hl:l.length≤9223372036854775807):DeckOk ⟨l,0⟩:=⟨Int.le_refl _,by simp only;omega,hl⟩
def zR:B3:=B3.mk zP 0 (D9.mk 0 [] zA 0 0 0 [] [] [])
structure rt (c:A1):Prop where
 val:pV c.fPrefix
 z:c.fHas=false→c.fRoute=zR
 h:c.fHas=true→∃ n x m,dOk n x m∧c.fRoute=B3.mk c.fPrefix n (mkD n x m)∧bA x [c.fPrefix]=true
theorem rt.gd {c:A1} (h:rt c):gd c:=by
 refine⟨h.val,fun e => ?_,fun e => ?_⟩
 ·obtain⟨n,x,m,_,h2,_⟩:=h.h e
  rw [h2]
 ·obtain⟨n,x,m,h1,h2,h3⟩:=h.h e
  exact⟨n,x,m,h1,by rw [h2],h3⟩
theorem B09 {V:List A0→Bool}:∀ (l cur:List A0) (c:List A0),c∈ck V cur l→c.length≤cur.length+l.length
 | [],cur,c,h=>by simp [ck] at h;subst h;simp
 | p :: l,cur,c,h=>by
  simp only [ck] at h
  split at h
  ·have:=B09 l _ c h;simp at this ⊢;omega
  ·rcases List.mem_cons.1 h with rfl | h
   ·simp
   ·have:=B09 l _ c h;simp at this ⊢;omega
theorem A7c {V:List A0→Bool} {l c:List A0} (h:c∈chunks V l):c.length≤l.length:=by
 cases l with
 | nil=>cases h
 | cons p l=>have:=B09 l [p] c h;simp at this ⊢;omega
theorem A9r {l:List A1} (h:Chs l):(packF l).length≤2000000:=by
 have hlen:=h.len
 have hcl:=A2h bW (goneL l)
 have hgl:=A3k l
 have hfl:=B2k l
 have h3:((FO l).flatMap fun a=>(chunks (bA a.fNext) (sel a l)).map (uAa a)).length≤1000*(FO l).length:=A8v _ _ _ fun a _=>by
  have:=A2h (bA a.fNext) (sel a l)
  have:=A5d a l
  rw [List.length_map];omega
 unfold packF
 rw [List.length_append,List.length_map]
 omega
theorem B50 {l:List A1} (h:Chs l):∀ x∈packF l,(x.fAttrs=noD∨isD x.fAttrs)∧x.fWithdraw.length≤100000∧x.fAnnounce.length≤100000:=by
 have hlen:=h.len
 intro x hx
 unfold packF at hx
 rcases List.mem_append.1 hx with hx | hx
 ·obtain⟨c,hc,rfl⟩:=List.mem_map.1 hx
  have:=A7c hc
  have:=A3k l
  exact⟨.inl rfl,(by show c.length≤_;omega),by simp [uW]⟩
 ·obtain⟨a,ha,hx⟩:=List.mem_flatMap.1 hx
  obtain⟨c,hc,rfl⟩:=List.mem_map.1 hx
  have:=A7c hc
  have:=A5d a l
  exact⟨.inr (h.foD ha),by simp [uAa],(by show c.length≤_;omega)⟩
def rk (r:B3):Prop:=pV r.fPrefix∧∃ n x m,dOk n x m∧r=B3.mk r.fPrefix n (mkD n x m)∧bA x [r.fPrefix]=true
theorem copyRoute {r:B3} (h:rk r):I1 [r]=some [r]:=by
 obtain⟨_,n,x,m,_,e,_⟩:=h
 obtain⟨p,f,a⟩:=r
 simp only [B3.mk.injEq] at e
 obtain⟨_,rfl,rfl⟩:=e
 unfold I1
 rw [D8]
 simp [I5,idx,B2f,chk,LIM,I3]
 rw [D8]
 simp [I5]
theorem sameA0:I0 zR.fAttrs zR.fAttrs=some true:=by
 have e0:(loop (H1 zR.fAttrs zR.fAttrs) 0)=some (.inr ()):=by
  rw [D8];simp [H1,zR]
 have e1:(loop (I8 zR.fAttrs zR.fAttrs) 0)=some (.inr ()):=by
  rw [D8];simp [I8,zR]
 have e2:(loop (I9 zR.fAttrs zR.fAttrs) 0)=some (.inr ()):=by
  rw [D8];simp [I9,zR]
 have e3:(loop (J0 zR.fAttrs zR.fAttrs) 0)=some (.inr ()):=by
  rw [D8];simp [J0,zR]
 unfold I0
 simp [e0,e1,e2,e3,jn]
theorem A8w {r:B3} (h:rk r∨r=zR):J9 r r=some true:=by
 have ha:I0 r.fAttrs r.fAttrs=some true:=by
  rcases h with ⟨_,n,x,m,hd,e,_⟩ | rfl
  ·rw [e]
   have:isD (mkD n x m):=⟨n,x,m,hd,rfl⟩
   rw [B1k this this,B06]
  ·exact sameA0
 unfold J9
 simp [jn,ha]
theorem A9a {r s:B3} (h:(rk r∧rk s)∨(r=zR∧s=zR)):Tot (J9 r s) (fun _=>True):=by
 have ha:∃ b,I0 r.fAttrs s.fAttrs=some b:=by
  rcases h with ⟨⟨_,n,x,m,hd,e,_⟩,_,n',x',m',hd',e',_⟩ | ⟨rfl,rfl⟩
  ·rw [e,e']
   exact⟨_,B1k ⟨n,x,m,hd,rfl⟩ ⟨n',x',m',hd',rfl⟩⟩
  ·exact⟨_,sameA0⟩
 obtain⟨b,hb⟩:=ha
 unfold J9
 refine Tot.jn (Tot.ite (fun _=>Tot.bindOf hb (Tot.some trivial)) (fun _=>Tot.some trivial))
theorem B1o {l:List B3} (hl:l.length≤1000) (p:A0):Tot (A0b l p) (fun r=>(r.2=true→r.1∈l∧r.1.fPrefix=p)∧(r.2=false→r.1=zR)):=by
 unfold A0b
 refine Tot.bindRng l.length (fun i (_:Unit)=>(i:Int)) (fun _ _=>True) (fun x=>x = .inr ()∨∃ r∈l,r.fPrefix=p∧x = .inl r) () rfl trivial (fun i _ hi _ => ?_) (fun _ _ => ?_) (fun x hx => ?_)
 ·unfold W6
  refine Tot.iteT (decide_eq_true (by omega)) ?_
  refine Tot.bindIdx i rfl hi ?_
  refine Tot.ite (fun e => ?_) (fun _=>Tot.step () (F3 hi (by omega)) trivial)
  have e':peq l[i].fPrefix p=true:=e
  exact Tot.stop (.inr ⟨l[i],List.getElem_mem hi,A17.1 e',rfl⟩)
 ·unfold W6
  refine Tot.iteF (decide_eq_false (by omega)) ?_
  exact Tot.last (.inl rfl)
 ·rcases hx with rfl | ⟨r,h1,h2,rfl⟩
  ·exact Tot.some ⟨(fun e=>by cases e),fun _=>rfl⟩
  ·exact Tot.some ⟨fun _=>⟨h1,h2⟩,(fun e=>by cases e)⟩
def asc (l:List A0):Prop:=l.Pairwise pLt
theorem B3b {l:List A0} {p:A0} (hR:∀ q∈l,aR q.fAddr) (hp:aR p.fAddr) (h:asc l) {k:Nat} (hk:k≤l.length) (h1:∀ (j:Nat) (hj:j<l.length),j<k→pLt l[j] p) (h2:∀ h:k<l.length,¬ pLt l[k] p∧l[k]≠p):asc (l.take k++[p]++l.drop k):=by
 have hb:∀ q∈l.take k,pLt q p:=fun q hq=>by
  rw [List.mem_take_iff_getElem] at hq
  obtain⟨j,hj,rfl⟩:=hq
  exact h1 j (by omega) (by omega)
 have ha:∀ q∈l.drop k,pLt p q:=fun q hq=>by
  obtain⟨j,hj,rfl⟩:=List.getElem_of_mem hq
  rw [List.getElem_drop]
  have hj':k+j<l.length:=by simpa using (by rw [List.length_drop] at hj;omega:k+j<l.length)
  have hkl:k<l.length:=by omega
  obtain⟨h3,h4⟩:=h2 hkl
  have hk0:pLt p l[k]:=Classical.byContradiction fun hn=>h4 (B05 (hR _ (List.getElem_mem hkl)) hp h3 hn)
  by_cases hj0:j=0
  ·subst hj0;exact hk0
  ·have:=List.pairwise_iff_getElem.1 h k (k+j) hkl hj' (by omega)
   exact A59 hp (hR _ (List.getElem_mem hkl)) (hR _ (List.getElem_mem hj')) hk0 this
 unfold asc at *
 rw [List.pairwise_append,List.pairwise_append]
 refine⟨⟨h.sublist (List.take_sublist k l),List.pairwise_singleton _ _,fun a ha' b hb'=>by rw [List.mem_singleton.1 hb'];exact hb a ha'⟩,h.sublist (List.drop_sublist k l),fun a ha' b hb' => ?_⟩
 rcases List.mem_append.1 ha' with h5 | h5
 ·exact A59 (hR _ (List.mem_of_mem_take h5)) hp (hR _ (List.mem_of_mem_drop hb')) (hb a h5) (ha b hb')
 ·rw [List.mem_singleton.1 h5];exact ha b hb'
theorem B2m {a b:List B3} {Q:A0→Prop} (qa:∀ r∈a,Q r.fPrefix) (qb:∀ r∈b,Q r.fPrefix) (ha:∀ r∈a,rk r) (hb:∀ r∈b,rk r) (hla:a.length≤100) (hlb:b.length≤100):Tot (Z6 a b) (fun ps=>asc ps∧ps.length≤a.length+b.length∧∀ p∈ps,pV p∧Q p):=by
 unfold Z6
 refine Tot.chk (limB (by omega)) (Tot.chk (limB (by simp;omega)) ?_)
 have hab:∀ r∈a++b,rk r:=fun r hr=>by
  rcases List.mem_append.1 hr with h | h
  ·exact ha r h
  ·exact hb r h
 have hqb:∀ r∈a++b,Q r.fPrefix:=fun r hr=>by
  rcases List.mem_append.1 hr with h | h
  ·exact qa r h
  ·exact qb r h
 have hlen:(a++b).length=a.length+b.length:=List.length_append
 refine Tot.bindRng (β:=List A0) (a++b).length (fun i out=>((i:Int),out)) (fun i out=>asc out∧out.length≤i∧∀ p∈out,pV p∧Q p) (fun ps=>asc ps∧ps.length≤a.length+b.length∧∀ p∈ps,pV p∧Q p) [] rfl ⟨List.Pairwise.nil,Nat.le_refl _,(fun p hp=>by cases hp)⟩ (fun i out hi hI => ?_) (fun out hI => ?_) (fun x hx=>Tot.some hx)
 ·obtain⟨h1,h2,h3⟩:=hI
  have hp:=(hab _ (List.getElem_mem hi)).1
  have hpq:=hqb _ (List.getElem_mem hi)
  unfold S3
  refine Tot.iteT (decide_eq_true (show(i:Int)<((a++b).length:Int) by omega)) ?_
  refine Tot.bindIdx i rfl hi (Tot.bindIdx i rfl hi ?_)
  generalize hP:(a++b)[i]=x at hp hpq
  refine Tot.bindLoop (fun s:Int=>∃ k:Nat,s=k∧k≤out.length∧∀ (j:Nat) (hj:j<out.length),j<k→pLt out[j] x.fPrefix) (fun s=>((out.length:Int)-s).toNat) (fun s:Int=>∃ k:Nat,s=k∧k≤out.length∧(∀ (j:Nat) (hj:j<out.length),j<k→pLt out[j] x.fPrefix)∧∀ h:k<out.length,¬ pLt out[k] x.fPrefix) ⟨0,rfl,Nat.zero_le _,fun j hj h=>absurd h (by omega)⟩ (fun s hs => ?_) (fun s hs => ?_)
  ·obtain⟨k,rfl,h4,h5⟩:=hs
   unfold X9
   refine Tot.jnR (fun m=>(m=true→∃ h:k<out.length,pLt out[k] x.fPrefix)∧(m=false→∀ h:k<out.length,¬ pLt out[k] x.fPrefix)) (fun j hj => ?_) (fun m hm => ?_)
   ·refine Tot.ite (fun e => ?_) (fun e => ?_)
    ·have hk:k<out.length:=by have:=of_decide_eq_true e;simp only at this;omega
     refine Tot.bindIdx k rfl hk (Tot.bindIdx k rfl hk ?_)
     refine Tot.bindOf (B1a (h3 _ (List.getElem_mem hk)).1.addr.1 hp.addr.1) ?_
     refine hj _ ⟨fun e=>⟨hk,?_⟩,fun e h => ?_⟩
     ·exact(A5a _ _).1 (of_decide_eq_true e)
     ·intro hlt
      exact absurd ((A5a _ _).2 hlt) (of_decide_eq_false e)
    ·have hk:¬ k<out.length:=by have:=of_decide_eq_false e;simp only at this;omega
     exact hj _ ⟨(fun e=>by cases e),fun _ h=>absurd h hk⟩
   ·refine Tot.ite (fun e => ?_) (fun e => ?_)
    ·obtain⟨hk,hlt⟩:=hm.1 e
     have hw:=F3 hk (n:=out.length) (by omega)
     refine Tot.next ⟨k+1,hw,hk,fun j hj hjk => ?_⟩ (by rw [hw];omega)
     by_cases hjk':j=k
     ·subst hjk';exact hlt
     ·exact h5 j hj (by omega)
    ·exact Tot.out ⟨k,rfl,h4,h5,hm.2 e⟩
  ·obtain⟨k,rfl,h4,h5,h6⟩:=hs
   refine Tot.jnR (fun m=>m=true→∀ h:k<out.length,out[k]≠x.fPrefix) (fun j hj => ?_) (fun m hm => ?_)
   ·refine Tot.ite (fun e => ?_) (fun e => ?_)
    ·have hk:k=out.length:=by simp at e;omega
     exact hj _ fun _ h=>absurd h (by omega)
    ·have hk:k<out.length:=by simp at e;omega
     refine Tot.bindIdx k rfl hk (Tot.bindIdx k rfl hk ?_)
     refine hj _ fun e' h => ?_
     have e2:(!(peq out[k] x.fPrefix))=true:=e'
     intro h7
     rw [A17.2 h7] at e2;cases e2
   ·refine Tot.jnR (fun m'=>asc m'∧m'.length≤i+1∧∀ p∈m',pV p∧Q p) (fun j hj => ?_) (fun m' hm'=>Tot.step m' (by rw [F3 hi (by omega)]) hm')
    refine Tot.ite (fun e => ?_) (fun e=>hj _ ⟨h1,(show out.length≤i+1 by omega),h3⟩)
    have hkn:((k:Nat):Int).toNat=k:=by omega
    refine Tot.chk (by simp;omega) (Tot.chk (decide_eq_true (by show((k:Nat):Int).toNat+(out.length-((k:Nat):Int).toNat)≤out.length;omega)) (Tot.chk (limB (by simp;omega)) (Tot.chk (by simp;omega) (Tot.chk (limB (by simp;omega)) (Tot.chk (limB (by simp;omega)) ?_)))))
    refine hj _ ?_
    simp only [hkn]
    have ht:(out.drop k).take (out.length-k)=out.drop k:=List.take_of_length_le (by simp)
    rw [ht]
    refine⟨B3b (fun q hq=>(h3 q hq).1.addr.1) hp.addr.1 h1 h4 h5 fun h=>⟨h6 h,hm e h⟩,?_,fun p hp' => ?_⟩
    ·simp;omega
    ·rcases List.mem_append.1 hp' with h7 | h7
     ·rcases List.mem_append.1 h7 with h7 | h7
      ·exact h3 p (List.mem_of_mem_take h7)
      ·rw [List.mem_singleton.1 h7];exact⟨hp,hpq⟩
     ·exact h3 p (List.mem_of_mem_drop h7)
 ·unfold S3
  refine Tot.iteF (decide_eq_false (show ¬ ((a++b).length:Int)<((a++b).length:Int) by omega)) ?_
  exact Tot.last ⟨hI.1,(by show out.length≤a.length+b.length;have:=hI.2.1;omega),hI.2.2⟩
structure Chx (l:List A1):Prop where
 all:∀ c∈l,rt c
 ord:asc (l.map (·.fPrefix))
 len:l.length≤1000
theorem Chx.chs {l:List A1} (h:Chx l):Chs l:=by
 refine⟨fun c hc=>(h.all c hc).gd,fun i hi => ?_,h.len⟩
 have:=List.pairwise_iff_getElem.1 h.ord i (i+1) (by simp;omega) (by simpa using hi) (by omega)
 simpa using this
theorem B51 {a b:List B3} {Q:A0→Prop} (qa:∀ r∈a,Q r.fPrefix) (qb:∀ r∈b,Q r.fPrefix) (ha:∀ r∈a,rk r) (hb:∀ r∈b,rk r) (hla:a.length≤100) (hlb:b.length≤100) (to:Int):Tot (A1q to a b) (fun l=>Chx l∧l.length≤a.length+b.length∧∀ c∈l,c.fTo=to∧Q c.fPrefix):=by
 unfold A1q
 refine Tot.bindT (B2m qa qb ha hb hla hlb) fun ps hps => ?_
 obtain⟨p1,p2,p3⟩:=hps
 refine Tot.bindRng (β:=List A1) ps.length (fun i out=>((i:Int),out)) (fun i out=>(out.map (·.fPrefix)).Sublist (ps.take i)∧∀ c∈out,rt c∧c.fTo=to∧Q c.fPrefix) (fun l=>Chx l∧l.length≤a.length+b.length∧∀ c∈l,c.fTo=to∧Q c.fPrefix) [] rfl ⟨List.nil_sublist _,(fun c hc=>by cases hc)⟩ (fun i out hi hI => ?_) (fun out hI => ?_) (fun x hx=>Tot.some hx)
 ·obtain⟨h1,h2⟩:=hI
  have hlen:=h1.length_le
  unfold W8
  refine Tot.iteT (decide_eq_true (show(i:Int)<(ps.length:Int) by omega)) ?_
  have hsn:ps.take (i+1)=ps.take i++[ps[i]]:=G8 hi
  refine Tot.jnR (fun m=>(m.map (·.fPrefix)).Sublist (ps.take (i+1))∧∀ c∈m,rt c∧c.fTo=to∧Q c.fPrefix) (fun j hj => ?_) (fun m hm=>Tot.step m (by rw [F3 hi (by omega)]) hm)
  refine Tot.bindIdx i rfl hi ?_
  refine Tot.bindT (B1o (by omega) _) fun x hx => ?_
  refine Tot.bindT (B1o (by omega) _) fun y hy => ?_
  have same:Tot (j out) _:=hj out ⟨by rw [hsn];exact h1.trans (List.sublist_append_left _ _),h2⟩
  have more:∀ r,(y.2=false→r=zR)→(y.2=true→rk r∧r.fPrefix=ps[i])→Tot (j (out++[A1.mk to ps[i] y.2 r])) _:=fun r hr0 hr1=>by
   refine hj _ ⟨?_,fun c hc => ?_⟩
   ·rw [hsn,List.map_append]
    exact h1.append (List.Sublist.refl _)
   ·rcases List.mem_append.1 hc with hc | hc
    ·exact h2 c hc
    ·rw [List.mem_singleton.1 hc]
     refine⟨⟨(p3 _ (List.getElem_mem hi)).1,hr0,fun e => ?_⟩,rfl,(p3 _ (List.getElem_mem hi)).2⟩
     obtain⟨⟨_,n,x,m,g1,g2,g3⟩,g4⟩:=hr1 e
     exact⟨n,x,m,g1,by rw [g4] at g2;exact g2,by rw [g4] at g3;exact g3⟩
  refine Tot.jnR (fun _=>True) (fun j1 hj1 => ?_) (fun m _ => ?_)
  ·refine Tot.ite (fun e => ?_) (fun e=>hj1 _ trivial)
   have e:x.2=y.2:=by simpa using e
   refine Tot.bindT (A9a ?_) fun _ _=>hj1 _ trivial
   cases hy2:y.2 with
   | true=>exact .inl ⟨ha _ (hx.1 (e.trans hy2)).1,hb _ (hy.1 hy2).1⟩
   | false=>exact .inr ⟨hx.2 (e.trans hy2),hy.2 hy2⟩
  ·refine Tot.ite (fun _=>same) (fun _ => ?_)
   have hml:out.length≤i:=by simpa [Nat.min_eq_left (Nat.le_of_lt hi)] using hlen
   refine Tot.jnR (fun r=>(y.2=false→r=zR)∧(y.2=true→rk r∧r.fPrefix=ps[i])) (fun j2 hj2 => ?_) (fun r hr=>Tot.chk (limB (by simp;omega)) (more r hr.1 hr.2))
   refine Tot.ite (fun e => ?_) (fun e=>hj2 _ ⟨fun _=>rfl,fun e'=>by rw [e] at e';cases e'⟩)
   have hy1:=hy.1 e
   refine Tot.bindOf (copyRoute (hb _ hy1.1)) ?_
   refine Tot.bindIdx 0 rfl (by simp) ?_
   exact hj2 _ ⟨(fun e'=>by rw [e] at e';cases e'),fun _=>⟨hb _ hy1.1,hy1.2⟩⟩
 ·unfold W8
  refine Tot.iteF (decide_eq_false (show ¬ (ps.length:Int)<(ps.length:Int) by omega)) ?_
  obtain⟨h1,h2⟩:=hI
  rw [List.take_of_length_le (Nat.le_refl _)] at h1
  have:=h1.length_le
  rw [List.length_map] at this
  exact Tot.last ⟨⟨fun c hc=>(h2 c hc).1,p1.sublist h1,(by show out.length≤1000;omega)⟩,(by show out.length≤_;omega),fun c hc=>(h2 c hc).2⟩
-- the deck
def b4 (n:Int):A0:=A0.mk (E7.mk false 0 n) 16
def b6 (n:Int):A0:=A0.mk (E7.mk true n 0) 48
def BL:List A0:=[b4 167772160,b4 167837696,b4 167903232,b4 167968768,b4 168034304,b4 168099840,b6 2306139568115941376,b6 2306139568116006912]
def bk (p:A0):Prop:=p∈BL
theorem A7d {v:Bool} {hi lo:Nat} {n:Nat} (h1:hi<18446744073709551616) (h2:lo<18446744073709551616) (h3:v=true∨(hi=0∧lo<4294967296)) (h5:n≤wid v) (h6:cut (hi*18446744073709551616+lo) (wid v-n)=hi*18446744073709551616+lo):pV (A0.mk (E7.mk v hi lo) n):=by
 refine⟨⟨⟨?_,?_⟩,?_⟩,?_,?_,?_⟩
 ·show(0:Int)≤(hi:Int)∧(hi:Int)<18446744073709551616
  omega
 ·show(0:Int)≤(lo:Int)∧(lo:Int)<18446744073709551616
  omega
 ·rcases h3 with h3 | h3
  ·exact .inl h3
  ·refine .inr ⟨?_,?_⟩
   ·show(hi:Int)=0;omega
   ·show(lo:Int)<4294967296;omega
 ·show(0:Int)≤(n:Int);omega
 ·show(n:Int)≤((wid v:Nat):Int);omega
 ·show cut (nA (E7.mk v hi lo)) (wid v-((n:Nat):Int).toNat)=nA (E7.mk v hi lo)
  have e:nA (E7.mk v hi lo)=hi*18446744073709551616+lo:=by simp [nA]
  rw [e,Int.toNat_natCast];exact h6
theorem bk_V {p:A0} (h:bk p):pV p∧p.fLen≤48:=by
 unfold bk BL at h
 simp only [List.mem_cons,List.not_mem_nil,or_false] at h
 rcases h with rfl | rfl | rfl | rfl | rfl | rfl | rfl | rfl
 ·exact⟨A7d (v:=false) (hi:=0) (lo:=167772160) (n:=16) (by decide) (by decide) (by decide) (by decide) (by decide),(by show(16:Int)≤48;decide)⟩
 ·exact⟨A7d (v:=false) (hi:=0) (lo:=167837696) (n:=16) (by decide) (by decide) (by decide) (by decide) (by decide),(by show(16:Int)≤48;decide)⟩
 ·exact⟨A7d (v:=false) (hi:=0) (lo:=167903232) (n:=16) (by decide) (by decide) (by decide) (by decide) (by decide),(by show(16:Int)≤48;decide)⟩
 ·exact⟨A7d (v:=false) (hi:=0) (lo:=167968768) (n:=16) (by decide) (by decide) (by decide) (by decide) (by decide),(by show(16:Int)≤48;decide)⟩
 ·exact⟨A7d (v:=false) (hi:=0) (lo:=168034304) (n:=16) (by decide) (by decide) (by decide) (by decide) (by decide),(by show(16:Int)≤48;decide)⟩
 ·exact⟨A7d (v:=false) (hi:=0) (lo:=168099840) (n:=16) (by decide) (by decide) (by decide) (by decide) (by decide),(by show(16:Int)≤48;decide)⟩
 ·exact⟨A7d (v:=true) (hi:=2306139568115941376) (lo:=0) (n:=48) (by decide) (by decide) (by decide) (by decide) (by decide),(by show(48:Int)≤48;decide)⟩
 ·exact⟨A7d (v:=true) (hi:=2306139568116006912) (lo:=0) (n:=48) (by decide) (by decide) (by decide) (by decide) (by decide),(by show(48:Int)≤48;decide)⟩
theorem B52 {k:Nat} (hk:k<8):Tot (M7 (k:Int)) bk:=by
 have h:k=0∨k=1∨k=2∨k=3∨k=4∨k=5∨k=6∨k=7:=by omega
 have m:∀ (i:Nat) (hi:i<BL.length),bk BL[i]:=fun i hi=>List.getElem_mem hi
 rcases h with rfl | rfl | rfl | rfl | rfl | rfl | rfl | rfl
 ·exact⟨_,rfl,m 0 (by decide)⟩
 ·exact⟨_,rfl,m 1 (by decide)⟩
 ·exact⟨_,rfl,m 2 (by decide)⟩
 ·exact⟨_,rfl,m 3 (by decide)⟩
 ·exact⟨_,rfl,m 4 (by decide)⟩
 ·exact⟨_,rfl,m 5 (by decide)⟩
 ·exact⟨_,rfl,m 6 (by decide)⟩
 ·exact⟨_,rfl,m 7 (by decide)⟩
theorem B61 {n:Nat} (hn:101≤n∧n≤103) (v:Bool):Tot (N8 (n:Int) v) (fun x=>x.fV6=v∧∀ m:Int,0≤m∧m≤5→dOk n x m):=by
 have h:n=101∨n=102∨n=103:=by omega
 have key:∀ x:E7,x.fV6=v→aV x→x≠zA→(x.fV6=v∧∀ m:Int,0≤m∧m≤5→dOk n x m):=fun x h1 h2 h3=>⟨h1,fun m hm=>⟨by omega,h2,h3,by omega⟩⟩
 cases v with
 | false =>
  rcases h with rfl | rfl | rfl
  ·exact⟨E7.mk false 0 3221226086,rfl,key _ rfl ⟨⟨by decide,by decide⟩,.inr (by decide)⟩ (by simp [zA])⟩
  ·exact⟨E7.mk false 0 3221226087,rfl,key _ rfl ⟨⟨by decide,by decide⟩,.inr (by decide)⟩ (by simp [zA])⟩
  ·exact⟨E7.mk false 0 3221226088,rfl,key _ rfl ⟨⟨by decide,by decide⟩,.inr (by decide)⟩ (by simp [zA])⟩
 | true =>
  rcases h with rfl | rfl | rfl
  ·exact⟨E7.mk true 2306139568115613695 101,rfl,key _ rfl ⟨⟨by decide,by decide⟩,.inl rfl⟩ (by simp [zA])⟩
  ·exact⟨E7.mk true 2306139568115613695 102,rfl,key _ rfl ⟨⟨by decide,by decide⟩,.inl rfl⟩ (by simp [zA])⟩
  ·exact⟨E7.mk true 2306139568115613695 103,rfl,key _ rfl ⟨⟨by decide,by decide⟩,.inl rfl⟩ (by simp [zA])⟩
theorem bk_A {p:A0} (h:bk p) {x:E7} (hx:x.fV6=p.fAddr.fV6):bA x [p]=true:=by
 have hv:=bk_V h
 have hl:=hv.1.len0
 have hl2:=hv.2
 have hpc:pc p≤7:=by unfold pc;omega
 have hc:∀ v,clen v [p]≤7:=fun v=>by
  simp only [clen]
  split<;>omega
 have h1:=hc true
 have h2:=hc false
 have ha:aa x (clen true [p])≤100:=by
  have h3:=B6c (21+clen true [p])
  unfold aa alen
  split<;>omega
 refine B2h.2 ⟨by simp,?_,?_,by omega,by omega⟩
 ·intro q hq;rw [List.mem_singleton.1 hq];exact hv.1
 ·intro q hq;rw [List.mem_singleton.1 hq];exact hx.symm
theorem B1p (d:C4) (hd:DeckOk d) (to:Int):Tot (H3 d to) (fun r=>(Chx r.1∧r.1.length≤16∧∀ c∈r.1,c.fTo=to∧bk c.fPrefix)∧DeckOk r.2):=by
 unfold H3
 refine Tot.bindRng (β:=List B3×List B3×C4) 8 (fun i b=>((i:Int),b.1,b.2.1,b.2.2)) (fun i b=>((∀ r∈b.1,rk r∧bk r.fPrefix)∧b.1.length≤i)∧((∀ r∈b.2.1,rk r∧bk r.fPrefix)∧b.2.1.length≤i)∧DeckOk b.2.2) (fun p=>DeckOk p.1∧((∀ r∈p.2.1,rk r∧bk r.fPrefix)∧p.2.1.length≤8)∧((∀ r∈p.2.2,rk r∧bk r.fPrefix)∧p.2.2.length≤8)) ([],[],d) rfl ⟨⟨(fun r h=>by cases h),Nat.le_refl _⟩,⟨(fun r h=>by cases h),Nat.le_refl _⟩,hd⟩ (fun i b hi hI => ?_) (fun b hI => ?_) (fun p hp => ?_)
 ·obtain⟨la,lb,d⟩:=b
  obtain⟨⟨a1,a2⟩,⟨b1,b2⟩,hd⟩:=hI
  simp only at a1 a2 b1 b2 hd
  unfold G7
  refine Tot.iteT (decide_eq_true (show(i:Int)<8 by omega)) ?_
  refine Tot.bindT (B52 hi) fun p hp => ?_
  refine Tot.bindT (A4z d hd 3 (by omega) (by omega)) fun x1 h1 => ?_
  refine Tot.bindOf B40 ?_
  obtain⟨n,hn,hn'⟩:∃ n:Nat,w64 (101+x1.1)=(n:Int)∧101≤n∧n≤103:=by
   refine⟨(101+x1.1).toNat,?_,by omega,by omega⟩
   rw [I3 (by omega) (by omega)];omega
  rw [hn]
  refine Tot.bindT (B61 hn' p.fAddr.fV6) fun x hx => ?_
  refine Tot.bindT (A4z x1.2 h1.2.2 2 (by omega) (by omega)) fun x2 h2 => ?_
  refine Tot.bindT (A4z x2.2 h2.2.2 4 (by omega) (by omega)) fun x3 h3 => ?_
  have rkm:∀ m:Int,0≤m∧m≤5→rk (B3.mk p n (mkD n x m))∧bk p:=fun m hm=>⟨⟨(bk_V hp).1,n,x,m,hx.2 m hm,rfl,bk_A hp hx.1⟩,hp⟩
  have r1:=rkm x2.1 ⟨h2.1,by omega⟩
  have r5:=rkm 5 (by omega)
  have app:∀ {l:List B3} {r:B3},(∀ r∈l,rk r∧bk r.fPrefix)∧l.length≤i→rk r∧bk r.fPrefix→(∀ q∈l++[r],rk q∧bk q.fPrefix)∧(l++[r]).length≤i+1:=fun {l r} hl hr=>⟨fun q hq=>by
   rcases List.mem_append.1 hq with hq | hq
   ·exact hl.1 q hq
   ·rw [List.mem_singleton.1 hq];exact hr,by simp;omega⟩
  have keep:∀ {l:List B3},(∀ r∈l,rk r∧bk r.fPrefix)∧l.length≤i→(∀ q∈l,rk q∧bk q.fPrefix)∧l.length≤i+1:=fun hl=>⟨hl.1,by omega⟩
  refine Tot.jnR (fun m=>((∀ r∈m.1,rk r∧bk r.fPrefix)∧m.1.length≤i+1)∧((∀ r∈m.2,rk r∧bk r.fPrefix)∧m.2.length≤i+1)) (fun j hj => ?_) (fun m hm=>Tot.step (m.1,m.2,x3.2) (by rw [F3 hi (by omega)]) ⟨hm.1,hm.2,h3.2.2⟩)
  refine Tot.ite (fun _=>Tot.chk (limB (by simp;omega)) (hj _ ⟨keep ⟨a1,a2⟩,app ⟨b1,b2⟩ r1⟩)) (fun _ => ?_)
  refine Tot.ite (fun _=>Tot.chk (limB (by simp;omega)) (hj _ ⟨app ⟨a1,a2⟩ r1,keep ⟨b1,b2⟩⟩)) (fun _ => ?_)
  refine Tot.ite (fun _=>Tot.chk (limB (by simp;omega)) (Tot.chk (limB (by simp;omega)) (hj _ ⟨app ⟨a1,a2⟩ r5,app ⟨b1,b2⟩ r1⟩))) (fun _ => ?_)
  exact hj _ ⟨keep ⟨a1,a2⟩,keep ⟨b1,b2⟩⟩
 ·unfold G7
  refine Tot.iteF (decide_eq_false (show ¬ ((8:Nat):Int)<8 by decide)) ?_
  exact Tot.last ⟨hI.2.2,hI.1,hI.2.1⟩
 ·refine Tot.bindT (B51 (Q:=bk) (fun r hr=>(hp.2.2.1 r hr).2) (fun r hr=>(hp.2.1.1 r hr).2) (fun r hr=>(hp.2.2.1 r hr).1) (fun r hr=>(hp.2.1.1 r hr).1) (by omega) (by omega) to) fun r hr=>Tot.some ⟨⟨hr.1,(by have:=hp.2.1.2;have:=hp.2.2.2;have:=hr.2.1;show r.length≤16;omega),hr.2.2⟩,hp.1⟩
def asnA (a:D9):Int:=match a.fPath with
 | [s]=>s.fASNs.headD 0
 | _=>0
def wC (to:Int) (p:A0):A1:=A1.mk to p false zR
def aC (to:Int) (a:D9) (p:A0):A1:=A1.mk to p true (B3.mk p (asnA a) a)
def says (to:Int) (u:C9):List A1:=u.fWithdraw.map (wC to)++u.fAnnounce.map (aC to u.fAttrs)
def uOk (u:C9):Prop:=((u.fAttrs=noD∧u.fAnnounce=[])∨isD u.fAttrs)∧u.fWithdraw.length≤1000∧u.fAnnounce.length≤1000
-- what lists cut into messages hold
section
variable {V:List A0→Bool}
theorem B0a:∀ (l cur:List A0),(ck V cur l).flatten=cur++l
 | [],cur=>by simp [ck]
 | p :: l,cur=>by
  simp only [ck]
  split
  ·rw [B0a l];simp
  ·rw [List.flatten_cons,B0a l];simp
theorem A2t (l:List A0):(chunks V l).flatten=l:=by
 cases l with
 | nil=>rfl
 | cons p l=>simp only [chunks];rw [B0a];rfl
theorem B0b:∀ (l cur:List A0),(∀ p∈l,V [p]=true)→V cur=true→cur≠[]→∀ c∈ck V cur l,V c=true∧c≠[]
 | [],cur,_,h,h0,c,hc=>by simp [ck] at hc;subst hc;exact⟨h,h0⟩
 | p :: l,cur,hl,h,h0,c,hc=>by
  simp only [ck] at hc
  split at hc
  ·rename_i hv
   exact B0b l _ (fun q hq=>hl q (List.mem_cons_of_mem _ hq)) hv (by simp) c hc
  ·rcases List.mem_cons.1 hc with rfl | hc
   ·exact⟨h,h0⟩
   ·exact B0b l _ (fun q hq=>hl q (List.mem_cons_of_mem _ hq)) (hl p (List.mem_cons_self ..)) (by simp) c hc
theorem A7e {l:List A0} (hl:∀ p∈l,V [p]=true):∀ c∈chunks V l,V c=true∧c≠[]:=fun c hc=>by
 cases l with
 | nil=>cases hc
 | cons p l=>exact B0b l [p] (fun q hq=>hl q (List.mem_cons_of_mem _ hq)) (hl p (List.mem_cons_self ..)) (by simp) c hc
end
theorem A50 {α β γ:Type} (msg:List α→β) (sy:β→List γ) (f:α→γ) (h:∀ c,sy (msg c)=c.map f):∀ L:List (List α),(L.map msg).flatMap sy=L.flatten.map f
 | []=>rfl
 | c :: L=>by rw [List.map_cons,List.flatMap_cons,h,A50 msg sy f h L,List.flatten_cons,List.map_append]
theorem A6t {α β γ:Type} (f:α→List β) (g:β→List γ):∀ A:List α,(A.flatMap f).flatMap g=A.flatMap fun a=>(f a).flatMap g
 | []=>rfl
 | a :: A=>by simp only [List.flatMap_cons,List.flatMap_append,A6t f g A]
noncomputable def UL (to:Int) (l:List A1):List A1:=(goneL l).map (wC to)++(FO l).flatMap fun a=>(sel a l).map (aC to a)
theorem B2n (to:Int) (l:List A1):(packF l).flatMap (says to)=UL to l:=by
 unfold packF UL
 rw [List.flatMap_append,A6t]
 congr 1
 ·rw [A50 uW (says to) (wC to) (fun c=>by simp [says,uW]),A2t]
 ·congr 1
  funext a
  rw [A50 (uAa a) (says to) (aC to a) (fun c=>by simp [says,uAa]),A2t]
-- each change once
theorem A3m:∀ {l:List A0},asc l→l.Nodup:=fun {l} h=>List.Pairwise.imp (fun {a b} (hab:pLt a b) (e:a=b)=>B37 b (e ▸ hab)) h
theorem Chx.inj {l:List A1} (h:Chx l) {c c':A1} (hc:c∈l) (hc':c'∈l) (e:c.fPrefix=c'.fPrefix):c=c':=by
 obtain⟨i,hi,rfl⟩:=List.getElem_of_mem hc
 obtain⟨j,hj,rfl⟩:=List.getElem_of_mem hc'
 have hn:=A3m h.ord
 have e':(l.map (·.fPrefix))[i]'(by simpa using hi)=(l.map (·.fPrefix))[j]'(by simpa using hj):=by simpa using e
 have:=(List.getElem_inj hn).1 e'
 subst this;rfl
theorem A8x {α β:Type} (f:α→List β):∀ {A:List α},A.Nodup→(∀ a∈A,(f a).Nodup)→(∀ a∈A,∀ b∈A,a≠b→∀ x∈f a,x∉f b)→(A.flatMap f).Nodup
 | [],_,_,_=>List.nodup_nil
 | a :: A,hn,h1,h2=>by
  rw [List.flatMap_cons,List.nodup_append]
  rw [List.nodup_cons] at hn
  refine⟨h1 a (List.mem_cons_self ..),A8x f hn.2 (fun b hb=>h1 b (List.mem_cons_of_mem _ hb)) fun b hb c hc=>h2 b (List.mem_cons_of_mem _ hb) c (List.mem_cons_of_mem _ hc),fun x hx y hy e => ?_⟩
  subst e
  obtain⟨b,hb,hy⟩:=List.mem_flatMap.1 hy
  exact h2 a (List.mem_cons_self ..) b (List.mem_cons_of_mem _ hb) (fun e=>hn.1 (e ▸ hb)) x hx hy
noncomputable def UP (l:List A1):List A0:=goneL l++(FO l).flatMap fun a=>sel a l
theorem B44 (to:Int) (l:List A1):(UL to l).map (·.fPrefix)=UP l:=by
 unfold UL UP
 rw [List.map_append,List.map_map,List.map_flatMap]
 congr 1
 ·exact List.map_id' (goneL l) |> fun h=>by rw [show((fun c:A1=>c.fPrefix) ∘ wC to)=fun p=>p from rfl];exact h
 ·congr 1
  funext a
  rw [List.map_map,show((fun c:A1=>c.fPrefix) ∘ aC to a)=fun p=>p from rfl]
  exact List.map_id' _
theorem B53 {l:List A1} (h:Chx l):(UP l).Nodup:=by
 have hn:=A3m h.ord
 unfold UP
 rw [List.nodup_append]
 refine⟨?_,A8x _ (B1m l) (fun a _ => ?_) (fun a _ b _ hab x hx hx' => ?_),fun x hx y hy e => ?_⟩
 ·exact hn.sublist (List.Sublist.map _ List.filter_sublist)
 ·exact hn.sublist (List.Sublist.map _ List.filter_sublist)
 ·obtain⟨c,h1,h2,h3,h4⟩:=A2s hx
  obtain⟨c',g1,g2,g3,g4⟩:=A2s hx'
  have:=h.inj h1 g1 (h4.trans g4.symm)
  subst this
  exact hab (h3.symm.trans g3)
 ·subst e
  obtain⟨c,h1,h2,h3⟩:=A3l hx
  obtain⟨a,_,hy⟩:=List.mem_flatMap.1 hy
  obtain⟨c',g1,g2,g3,g4⟩:=A2s hy
  have:=h.inj h1 g1 (h3.trans g4.symm)
  subst this
  rw [h2] at g2;cases g2
theorem B0c {l:List A1} (p:A0):p∈UP l↔p∈l.map (·.fPrefix):=by
 unfold UP
 rw [List.mem_append]
 constructor
 ·rintro(h | h)
  ·obtain⟨c,h1,_,h3⟩:=A3l h
   exact List.mem_map.2 ⟨c,h1,h3⟩
  ·obtain⟨a,_,h⟩:=List.mem_flatMap.1 h
   obtain⟨c,h1,_,_,h4⟩:=A2s h
   exact List.mem_map.2 ⟨c,h1,h4⟩
 ·intro h
  obtain⟨c,hc,rfl⟩:=List.mem_map.1 h
  cases hh:c.fHas with
  | false =>
   left
   unfold goneL
   exact List.mem_map.2 ⟨c,List.mem_filter.2 ⟨hc,by rw [hh];rfl⟩,rfl⟩
  | true =>
   right
   refine List.mem_flatMap.2 ⟨c.fRoute.fAttrs,(A8u l _).2 ⟨c,hc,hh,rfl⟩,?_⟩
   unfold sel
   exact List.mem_map.2 ⟨c,List.mem_filter.2 ⟨hc,by rw [hh,B06];rfl⟩,rfl⟩
theorem B6s {l:List A1} (h:Chx l):(UP l).length=l.length:=by
 have:=(List.perm_ext_iff_of_nodup (B53 h) (A3m h.ord)).2 fun p=>B0c p
 rw [this.length_eq,List.length_map]
theorem B6t {l:List A1} (h:Chx l) (to:Int):(UL to l).length=l.length:=by
 rw [← B6s h,← B44 to,List.length_map]
theorem B6u {l:List A1} (h:Chx l) {to:Int} {c:A1} (hc:c∈UL to l):∃ y∈l,c=A1.mk to y.fPrefix y.fHas y.fRoute:=by
 unfold UL at hc
 rcases List.mem_append.1 hc with hc | hc
 ·obtain⟨p,hp,rfl⟩:=List.mem_map.1 hc
  obtain⟨y,h1,h2,rfl⟩:=A3l hp
  exact⟨y,h1,by rw [h2,(h.all y h1).z h2];rfl⟩
 ·obtain⟨a,ha,hc⟩:=List.mem_flatMap.1 hc
  obtain⟨p,hp,rfl⟩:=List.mem_map.1 hc
  obtain⟨y,h1,h2,rfl,rfl⟩:=A2s hp
  obtain⟨n,x,m,_,e,_⟩:=(h.all y h1).h h2
  refine⟨y,h1,?_⟩
  rw [h2]
  unfold aC
  rw [e]
  rfl
theorem B3c (p q:A0):keq33 p q=peq p q:=rfl
theorem B6v {p:A0} (h:pV p):bW [p]=true:=by
 have hpc:=(B4t h).1
 have hc:∀ v,clen v [p]≤17:=fun v=>by
  simp only [clen]
  split<;>omega
 have h1:=hc true
 have h2:=hc false
 have ha:aw (clen true [p])≤100:=by
  have h3:=B6c (3+clen true [p])
  unfold aw
  split<;>omega
 refine B2g.2 ⟨by simp,?_,by omega,by omega⟩
 intro q hq;rw [List.mem_singleton.1 hq];exact h
theorem A9s {l:List A1} (h:Chs l) {u:C9} (hu:u∈packF l):(∃ c,u=uW c∧VW c∧c≠[])∨∃ n x m c,dOk n x m∧u=uA n x m c∧VA x c∧c≠[]:=by
 unfold packF at hu
 rcases List.mem_append.1 hu with hu | hu
 ·obtain⟨c,hc,rfl⟩:=List.mem_map.1 hu
  have:=A7e (V:=bW) (l:=goneL l) (fun p hp => ?_) c hc
  ·exact .inl ⟨c,rfl,B2g.1 this.1,this.2⟩
  ·obtain⟨y,hy,_,rfl⟩:=A3l hp
   exact B6v (h.all y hy).val
 ·obtain⟨a,ha,hu⟩:=List.mem_flatMap.1 hu
  obtain⟨c,hc,rfl⟩:=List.mem_map.1 hu
  have:=A7e (V:=bA a.fNext) (l:=sel a l) (fun p hp => ?_) c hc
  ·obtain⟨n,x,m,hd,rfl⟩:=h.foD ha
   exact .inr ⟨n,x,m,c,hd,rfl,B2h.1 this.1,this.2⟩
  ·obtain⟨y,hy,hh,rfl,rfl⟩:=A2s hp
   obtain⟨n,x,m,_,e,hb⟩:=(h.all y hy).att hh
   rw [e];exact hb
theorem B45 {l:List A1} (h:Chs l):∀ u∈packF l,uOk u:=fun u hu=>by
 rcases A9s h hu with ⟨c,rfl,hv,_⟩ | ⟨n,x,m,c,hd,rfl,hv,_⟩
 ·have:=hv.len
  exact⟨.inl ⟨rfl,rfl⟩,(by show c.length≤1000;omega),by simp [uW]⟩
 ·have:=hv.len
  exact⟨.inr ⟨n,x,m,hd,rfl⟩,by simp [uA],(by show c.length≤1000;omega)⟩
end Go.Proofs.YtplbaenjbihekaaGreatDoor

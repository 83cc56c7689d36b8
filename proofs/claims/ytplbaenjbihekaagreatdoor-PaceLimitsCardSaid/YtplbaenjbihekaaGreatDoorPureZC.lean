/- Groups, what is packed, decks, in plain Lean. -/
import Derived.Test.YtplbaenjbihekaaGreatDoorPureZB
import Derived.Test.YtplbaenjbihekaaGreatDoorVcMI
namespace Go.Proofs.YtplbaenjbihekaaGreatDoor
open Go Go.Vc
structure gd (c:A2):Prop where
 val:pV c.fPrefix
 rt:c.fHas=true→c.fRoute.fPrefix=c.fPrefix
 att:c.fHas=true→∃ n x m,dOk n x m∧c.fRoute.fAttrs=mkD n x m∧bA x [c.fPrefix]=true
structure Chs (l:List A2):Prop where
 all:∀ c∈l,gd c
 asc:∀ (i:Nat) (h:i+1<l.length),pLt (l[i]'(by omega)).fPrefix l[i+1].fPrefix
 len:l.length≤1000
theorem B9h {c:A2} (h:gd c):A4y c=some true:=by
 unfold A4y;refine J7 (B3l h.val.addr.1) ?_;rw [S9.2 h.val,if_pos rfl];cases hc:c.fHas with
 | false=>rfl
 | true =>
  obtain⟨n,x,m,h1,h2,h3⟩:=h.att hc;rw [if_neg (by simp)];have hp:peq c.fRoute.fPrefix c.fPrefix=true:=A13.2 (h.rt hc);refine(if_pos hp).trans ?_;rw [h2];refine J7 (C0v (by simp)) ?_;refine J7 (B7a h1 (by simpa using h.val.addr.1) (by simp) (by simp)) ?_;rw [h3]
theorem B4c {c:A2} (h:gd c):A0e c=some true:=by
 unfold A0e;refine J7 (B3k h.val.addr.1) ?_;rw [S9.2 h.val,if_neg (by simp)];cases hc:c.fHas with
 | false=>rfl
 | true =>
  obtain⟨n,x,m,h1,h2,h3⟩:=h.att hc;simp only [jn,Bool.not_true,Bool.false_eq_true,if_false];have hp:peq c.fRoute.fPrefix c.fPrefix=true:=A13.2 (h.rt hc);refine(if_pos hp).trans ?_;rw [h2];refine J7 (B2q h1 (l:=[c.fPrefix]) (by simpa using h.val.addr.1) (by simp) (by simp)) ?_;rw [h3]
def isD (a:D3):Prop:=∃ n x m,dOk n x m∧a=mkD n x m
theorem B8c {a b:D3} (ha:isD a) (hb:isD b):A21 a b=some (aD a b):=by
 obtain⟨n,x,m,_,rfl⟩:=ha;obtain⟨n',x',m',_,rfl⟩:=hb;exact C0h
theorem B5m {a b:D3} (ha:isD a) (hb:isD b):I1 a b=some (aD a b):=by
 obtain⟨n,x,m,_,rfl⟩:=ha;obtain⟨n',x',m',_,rfl⟩:=hb;exact C16
def uAa (a:D3) (l:List A1):A7:=A7.mk [] a l
theorem filledD {a:D3} (h:isD a) {l:List A1} (hl:∀ p∈l,aR p.fAddr) (hn:l.length≤90000):S3 (D0.mk a l) true=some ((chunks (bA a.fNext) l).map (uAa a)):=by
 obtain⟨n,x,m,h,rfl⟩:=h;exact filledA h hl hn
def goneL (l:List A2):List A1:=(l.filter fun c => !c.fHas).map (·.fPrefix)
noncomputable def sel (a:D3) (l:List A2):List A1:=(l.filter fun c=>c.fHas&&aD c.fRoute.fAttrs a).map (·.fPrefix)
open Classical in
/-- attributes in the order in which they come -/
noncomputable def foS (A:List D3) (c:A2):List D3:=if c.fHas=true∧¬ c.fRoute.fAttrs∈A then A++[c.fRoute.fAttrs] else A
noncomputable def FO (l:List A2):List D3:=l.foldl foS []
theorem A5g (l:List A2) (c:A2):FO (l++[c])=foS (FO l) c:=by unfold FO;rw [List.foldl_append];rfl
theorem A6n (l:List A2) (c:A2):goneL (l++[c])=if c.fHas=true then goneL l else goneL l++[c.fPrefix]:=by
 unfold goneL;rw [List.filter_append,List.map_append];cases h:c.fHas<;>simp [h]
theorem B2s (a:D3) (l:List A2) (c:A2):sel a (l++[c])=if (c.fHas&&aD c.fRoute.fAttrs a)=true then sel a l++[c.fPrefix] else sel a l:=by
 unfold sel;rw [List.filter_append,List.map_append];cases h:(c.fHas&&aD c.fRoute.fAttrs a)<;>simp [h]
theorem A3f (l:List A2):(goneL l).length≤l.length:=by unfold goneL;rw [List.length_map];exact List.length_filter_le _ _
theorem A5h (a:D3) (l:List A2):(sel a l).length≤l.length:=by unfold sel;rw [List.length_map];exact List.length_filter_le _ _
theorem A85 {l:List A2} {p:A1} (h:p∈goneL l):∃ c∈l,c.fHas=false∧c.fPrefix=p:=by
 unfold goneL at h;obtain⟨c,hc,rfl⟩:=List.mem_map.1 h;rw [List.mem_filter] at hc;exact⟨c,hc.1,by simpa using hc.2,rfl⟩
theorem A9g {a:D3} {l:List A2} {p:A1} (h:p∈sel a l):∃ c∈l,c.fHas=true∧c.fRoute.fAttrs=a∧c.fPrefix=p:=by
 unfold sel at h;obtain⟨c,hc,rfl⟩:=List.mem_map.1 h;rw [List.mem_filter,Bool.and_eq_true,A6m] at hc;exact⟨c,hc.1,hc.2.1,hc.2.2,rfl⟩
theorem A9w:∀ (l:List A2) (a:D3),a∈FO l↔∃ c∈l,c.fHas=true∧c.fRoute.fAttrs=a:=by
 refine A69 (fun a=>by simp [FO]) (fun l c ih a => ?_);rw [A5g];unfold foS;split
 ·rename_i h;rw [List.mem_append,ih a];simp only [List.mem_singleton,List.mem_append];constructor
  ·rintro(⟨x,hx,h1,h2⟩ | rfl)
   ·exact⟨x,.inl hx,h1,h2⟩
   ·exact⟨c,.inr rfl,h.1,rfl⟩
  ·rintro⟨x,hx | rfl,h1,h2⟩
   ·exact .inl ⟨x,hx,h1,h2⟩
   ·exact .inr h2.symm
 ·rename_i h;rw [ih a];constructor
  ·rintro⟨x,hx,h1,h2⟩;exact⟨x,List.mem_append_left _ hx,h1,h2⟩
  ·rintro⟨x,hx,h1,h2⟩;rcases List.mem_append.1 hx with hx | hx
   ·exact⟨x,hx,h1,h2⟩
   ·cases List.mem_singleton.1 hx;refine(ih a).1 ?_;refine Classical.byContradiction fun hn=>h ⟨h1,?_⟩;rw [h2];exact hn
theorem B9i:∀ l:List A2,(FO l).Nodup:=by
 refine A69 (by simp [FO]) (fun l c ih => ?_);rw [A5g];unfold foS;split
 ·rename_i h;rw [List.nodup_append];exact⟨ih,by simp,fun a ha b hb e=>by cases List.mem_singleton.1 hb;subst e;exact h.2 ha⟩
 ·exact ih
theorem B4d (l:List A2):(FO l).length≤l.length:=by
 revert l;refine A69 (by simp [FO]) (fun l c ih => ?_);rw [A5g];unfold foS;split<;>simp<;>omega
theorem B7c {a:D3} {l:List A2} (h:a∉FO l):sel a l=[]:=by
 refine List.eq_nil_iff_forall_not_mem.2 fun p hp => ?_;obtain⟨c,h1,h2,h3,_⟩:=A9g hp;exact h ((A9w l a).2 ⟨c,h1,h2,h3⟩)
noncomputable def GR (l:List A2):List D0:=(FO l).map fun a=>D0.mk a (sel a l)
theorem C0n {A:List D3} {f:D3→List A1} {c:A2} (hA:∀ a∈A,isD a) (hc:isD c.fRoute.fAttrs) (hn:A.length≤1000):Tot (Q1 (A.map fun a=>D0.mk a (f a)) c) (fun k=>(k = -1∧c.fRoute.fAttrs∉A)∨∃ (i:Nat) (h:i<A.length),k=i∧A[i]=c.fRoute.fAttrs):=by
 unfold Q1;refine Tot.bindRng A.length (fun i (_:Unit)=>(i:Int)) (fun i _=>∀ j (h:j<A.length),j<i→A[j]≠c.fRoute.fAttrs) (fun x=>(x = .inr ()∧c.fRoute.fAttrs∉A)∨∃ (i:Nat) (h:i<A.length),x = .inl (i:Int)∧A[i]=c.fRoute.fAttrs) () rfl (fun j _ h=>absurd h (by omega)) (fun i _ hi hI => ?_) (fun _ hI => ?_) (fun x hx => ?_)
 ·unfold L9;refine Tot.iteT (decide_eq_true (by rw [List.length_map];omega)) ?_;refine Tot.bindIdx i rfl (by rw [List.length_map];exact hi) ?_;rw [List.getElem_map];have:A1b (D0.mk A[i] (f A[i])) c=some (aD A[i] c.fRoute.fAttrs):=by
   unfold A1b;exact J7 (B8c (hA _ (List.getElem_mem hi)) hc) rfl
  refine Tot.bindOf this ?_;refine Tot.ite (fun e=>Tot.stop (.inr ⟨i,hi,rfl,A6m.1 e⟩)) (fun e => ?_);refine Tot.step () (D6 hi (by omega)) fun j hj hji => ?_
  by_cases hji':j=i
  ·subst hji';intro e';rw [A6m.2 e'] at e;cases e
  ·exact hI j hj (by omega)
 ·unfold L9;refine Tot.iteF (decide_eq_false (by rw [List.length_map];omega)) ?_;refine Tot.last (.inl ⟨rfl,fun hm => ?_⟩);obtain⟨j,hj,e⟩:=List.getElem_of_mem hm;exact hI j hj hj e
 ·rcases hx with ⟨rfl,h⟩ | ⟨i,h,rfl,e⟩
  ·exact Tot.some (.inl ⟨rfl,h⟩)
  ·exact Tot.some (.inr ⟨i,h,rfl,e⟩)
theorem B8d {A:List D3} (hA:A.Nodup) (f:D3→List A1) {i:Nat} (hi:i<A.length) (p:A1) :
  (A.map fun a=>D0.mk a (f a)).set i (D0.mk A[i] (f A[i]++[p]))=A.map fun a=>D0.mk a (if aD A[i] a=true then f a++[p] else f a):=by
 refine List.ext_getElem (by simp) fun k h1 h2 => ?_;rw [List.getElem_set]
 by_cases e:i=k
 ·subst e;rw [if_pos rfl,List.getElem_map,B78,if_pos rfl]
 ·rw [if_neg e,List.getElem_map,List.getElem_map];have hk:k<A.length:=by simpa using h2
  have:A[i]≠A[k]:=fun e'=>e ((List.getElem_inj hA).1 e');rw [C1g this,if_neg (by simp)]
theorem C19 {l:List A2} {i:Nat} (h:i<(GR l).length):(GR l)[i]=D0.mk ((FO l)[i]'(by simpa [GR] using h)) (sel ((FO l)[i]'(by simpa [GR] using h)) l):=by
 exact List.getElem_map _
noncomputable def packF (l:List A2):List A7:=(chunks bW (goneL l)).map uW++(FO l).flatMap fun a=>(chunks (bA a.fNext) (sel a l)).map (uAa a)
section
variable {l:List A2}
theorem Chs.isD (h:Chs l) {c:A2} (hc:c∈l) (hh:c.fHas=true):isD c.fRoute.fAttrs:=by
 obtain⟨n,x,m,h1,h2,_⟩:=(h.all c hc).att hh;exact⟨n,x,m,h1,h2⟩
theorem Chs.foD (h:Chs l) {a:D3} (ha:a∈FO l):Go.Proofs.YtplbaenjbihekaaGreatDoor.isD a:=by
 obtain⟨c,hc,h1,rfl⟩:=(A9w l a).1 ha;exact h.isD hc h1
theorem B5n {k:Nat} {a:D3} (h:a∈FO (l.take k)):a∈FO l:=by
 obtain⟨c,hc,h1,h2⟩:=(A9w _ a).1 h;exact(A9w _ a).2 ⟨c,List.mem_of_mem_take hc,h1,h2⟩
theorem Chs.gR (h:Chs l):∀ p∈goneL l,aR p.fAddr:=fun p hp=>by
 obtain⟨c,hc,_,rfl⟩:=A85 hp;exact(h.all c hc).val.addr.1
theorem Chs.sR (h:Chs l) {a:D3}:∀ p∈sel a l,aR p.fAddr:=fun p hp=>by
 obtain⟨c,hc,_,_,rfl⟩:=A9g hp;exact(h.all c hc).val.addr.1
theorem A9h {α β:Type} (f:α→List β):∀ (A:List α) (n:Nat),(∀ a∈A,(f a).length≤n)→(A.flatMap f).length≤n*A.length
 | [],n,_=>by simp
 | a :: A,n,h=>by
  have:=A9h f A n fun b hb=>h b (List.mem_cons_of_mem _ hb);have:=h a (List.mem_cons_self ..);rw [List.flatMap_cons,List.length_append,List.length_cons,Nat.mul_succ];omega
theorem B6j (h:Chs l):Tot (loop (A11 l) ((0:Int),([]:List D0),([]:List A1))) (fun x=>x = .inr (GR l,goneL l)):=by
 refine Tot.rng l.length (fun i (_:Unit)=>((i:Int),GR (l.take i),goneL (l.take i))) (fun _ _=>True) _ () rfl trivial (fun i _ hi _ => ?_) (fun _ _ => ?_)
 ·unfold A11;refine Tot.iteT (decide_eq_true (by simp only;omega)) ?_;have hlen:=h.len;have hci:l[i]∈l:=List.getElem_mem hi;have hgd:=h.all _ hci;have hsn:l.take (i+1)=l.take i++[l[i]]:=G2 hi;refine Tot.jnR (fun m=>m=(GR (l.take (i+1)),goneL (l.take (i+1)))) (fun j hj => ?_) (fun m hm=>Tot.step () (by rw [hm,D6 hi (by omega)]) trivial);refine Tot.bindIdx i rfl hi ?_;refine Tot.jnR (fun m=>m=false) (fun j2 hj2 => ?_) (fun m hm => ?_)
  ·refine Tot.bindOf (B9h hgd) ?_;refine Tot.iteF rfl ?_;refine Tot.ite (fun e => ?_) (fun e=>hj2 _ rfl);have hi0:0<i:=by have:=of_decide_eq_true e;simp only at this;omega
   obtain⟨k,rfl⟩:∃ k,i=k+1:=⟨i-1,by omega⟩;refine Tot.bindIdx k (A3o (n:=l.length) (by omega) (by omega)) (by omega) ?_;refine Tot.bindOf (B76 (h.all _ (List.getElem_mem (by omega))).val.addr.1 hgd.val.addr.1) ?_;refine hj2 _ ?_;have:=(A9d _ _).2 (h.asc k hi);exact decide_eq_false (by omega)
  ·subst hm;refine Tot.iteF rfl ?_;cases hh:l[i].fHas with
   | false =>
    refine Tot.iteT rfl ?_;have hgl:=A3f (l.take i);refine Tot.chk (limB (by simp at hgl ⊢;omega)) ?_;refine hj _ ?_;rw [hsn,A6n,hh,if_neg (by simp)];have:GR (l.take i++[l[i]])=GR (l.take i):=by
     unfold GR;rw [A5g,foS,hh,if_neg (by simp)];refine List.map_congr_left fun a _ => ?_;rw [B2s,hh,Bool.false_and,if_neg (by simp)]
    rw [this]
   | true =>
    refine Tot.iteF rfl ?_;have hD:=h.isD hci hh;have hAl:=B4d (l.take i);have hAl':(FO (l.take i)).length≤1000:=by simp at hAl;omega
    refine Tot.bindT (C0n (A:=FO (l.take i)) (f:=fun a=>sel a (l.take i)) (c:=l[i]) (fun a ha=>h.foD (B5n ha)) hD hAl') fun k hk => ?_
    -- the groups with one that holds the attributes
    refine Tot.jnR (fun m=>∃ (q:Nat) (hq:q<(FO (l.take (i+1))).length),m=((q:Int),(FO (l.take (i+1))).map fun a=>D0.mk a (sel a (l.take i)))∧(FO (l.take (i+1)))[q]=l[i].fRoute.fAttrs) (fun j3 hj3 => ?_) (fun m hm => ?_)
    ·rcases hk with ⟨rfl,hk⟩ | ⟨q,hq,rfl,hk⟩
     ·refine Tot.iteT (by decide) ?_;refine Tot.chk (limB (by simp [GR];omega)) ?_;have hF:FO (l.take (i+1))=FO (l.take i)++[l[i].fRoute.fAttrs]:=by rw [hsn,A5g,foS,if_pos ⟨hh,hk⟩]
      refine hj3 _ ⟨(FO (l.take i)).length,by rw [hF];simp,?_,by simp [hF]⟩;rw [hF,List.map_append];simp only [GR,List.length_map,List.map_cons,List.map_nil];rw [B7c hk]
     ·refine Tot.iteF (decide_eq_false (by omega)) ?_;have hF:FO (l.take (i+1))=FO (l.take i):=by
       rw [hsn,A5g,foS,if_neg];rintro⟨_,hn⟩;exact hn (hk ▸ List.getElem_mem hq)
      refine hj3 _ ⟨q,by rw [hF];exact hq,?_,by simp only [hF];exact hk⟩;rw [hF];rfl
    ·obtain⟨q,hq,rfl,hk⟩:=hm;have hq':q<((FO (l.take (i+1))).map fun a=>D0.mk a (sel a (l.take i))).length:=by rw [List.length_map];exact hq
     have hsl:=A5h l[i].fRoute.fAttrs (l.take i);refine Tot.bindIdx q rfl hq' ?_;refine Tot.bindIdx q rfl hq' ?_;refine Tot.chk (limB (by rw [List.getElem_map,hk];simp at hsl ⊢;omega)) ?_;refine Tot.bindIdx q rfl hq' ?_;refine Tot.bindIdx q rfl hq' ?_;refine hj _ ?_;have e1:goneL (l.take (i+1))=goneL (l.take i):=by rw [hsn,A6n,hh,if_pos rfl]
     rw [e1];refine Prod.ext ?_ rfl;have e2:=B8d (B9i (l.take (i+1))) (fun a=>sel a (l.take i)) hq l[i].fPrefix;simp only [Int.toNat_natCast,List.getElem_map];refine e2.trans ?_;unfold GR;refine List.map_congr_left fun a _ => ?_
     conv=>rhs;rw [hsn,B2s,hh,Bool.true_and]
     rw [hk]
 ·unfold A11;refine Tot.iteF (decide_eq_false (by simp only;omega)) ?_;refine Tot.last ?_;rw [List.take_of_length_le (Nat.le_refl _)]
theorem B7d (h:Chs l):A4j l=some (packF l,0):=by
 refine Tot.eq ?_;unfold A4j;refine Tot.bindT (B6j h) fun x hx => ?_;subst hx;have hlen:=h.len;refine Tot.bindOf (filledW h.gR (Nat.le_trans (A3f l) (by omega))) ?_;have hFl:=B4d l;have hGl:(GR l).length=(FO l).length:=by unfold GR;rw [List.length_map]
 have hcl:=A1v bW (goneL l);have hgl:=A3f l;refine Tot.bindRng (FO l).length (fun i (_:Unit)=>((i:Int),(chunks bW (goneL l)).map uW++((FO l).take i).flatMap fun a=>(chunks (bA a.fNext) (sel a l)).map (uAa a))) (fun _ _=>True) (fun r=>r=packF l) () (by simp) trivial (fun i _ hi _ => ?_) (fun _ _ => ?_) (fun x hx=>Tot.some (by rw [hx]))
 ·unfold A2x;refine Tot.iteT (decide_eq_true (by show(i:Int)<((GR l).length:Int);omega)) ?_;refine Tot.bindIdx i rfl (show i<(GR l).length by omega) ?_;show Tot ((S3 (GR l)[i] true).bind _) _;rw [C19 (by omega)];refine Tot.bindOf (filledD (h.foD (List.getElem_mem hi)) h.sR (Nat.le_trans (A5h _ l) (by omega))) ?_;have hsn:(FO l).take (i+1)=(FO l).take i++[(FO l)[i]]:=G2 hi;have h1:=A1v (bA (FO l)[i].fNext) (sel (FO l)[i] l);have h2:=A5h (FO l)[i] l;have h3:(((FO l).take i).flatMap fun a=>(chunks (bA a.fNext) (sel a l)).map (uAa a)).length≤1000*((FO l).take i).length:=A9h _ _ _ fun a _=>by
   have:=A1v (bA a.fNext) (sel a l);have:=A5h a l;rw [List.length_map];omega
  have h4:((FO l).take i).length≤1000:=by rw [List.length_take];omega
  refine Tot.chk (limB (by simp only [List.length_append,List.length_map];omega)) ?_;refine Tot.step () ?_ trivial;rw [hsn,List.flatMap_append];refine Prod.ext (D6 hi (by omega)) (by simp)
 ·unfold A2x;refine Tot.iteF (decide_eq_false (by show ¬ (((FO l).length:Nat):Int)<((GR l).length:Int);omega)) ?_;refine Tot.last ?_;rw [List.take_of_length_le (Nat.le_refl _)];rfl
end
def Beg (V:List A1→Bool) (msg:List A1→A7) (pre:List A7) (S:List A1) (out:List A7):Prop :=
 (S=[]∧out=pre)∨(S≠[]∧∃ cs cur,out=pre++cs.map msg++[msg cur]∧cur≠[]∧cur.length+cs.length≤S.length∧(∀ p∈cur,p∈S)∧∀ l',chunks V (S++l')=cs++ck V cur l')
theorem Beg.done {V:List A1→Bool} {msg:List A1→A7} {pre:List A7} {S:List A1} {out:List A7} (h:Beg V msg pre S out):out=pre++(chunks V S).map msg:=by
 rcases h with ⟨rfl,rfl⟩ | ⟨_,cs,cur,rfl,_,_,_,h⟩
 ·simp [chunks]
 ·have:=h [];rw [List.append_nil] at this;rw [this];simp [ck]
theorem Beg.new {V:List A1→Bool} {msg:List A1→A7} {pre:List A7} {p:A1}:Beg V msg pre [p] (pre++[msg [p]]) :=
 .inr ⟨by simp,[],[p],by simp,by simp,by simp,by simp,fun l'=>by simp [chunks]⟩
theorem Beg.more {V:List A1→Bool} {msg:List A1→A7} {pre:List A7} {S:List A1} {cs:List (List A1)} {cur:List A1} {p:A1} {out:List A7}
  (h0:cur≠[]) (hlen:cur.length+cs.length≤S.length) (hm:∀ p∈cur,p∈S) (hc:∀ l',chunks V (S++l')=cs++ck V cur l')
  (ho:out=if V (cur++[p])=true then pre++cs.map msg++[msg (cur++[p])] else pre++cs.map msg++[msg cur]++[msg [p]]):Beg V msg pre (S++[p]) out:=by
 right;refine⟨by simp,?_⟩
 by_cases hv:V (cur++[p])=true
 ·rw [if_pos hv] at ho;refine⟨cs,cur++[p],ho,by simp,by simp;omega,?_,fun l' => ?_⟩
  ·intro q hq;rcases List.mem_append.1 hq with hq | hq
   ·exact List.mem_append_left _ (hm q hq)
   ·exact List.mem_append_right _ hq
  ·rw [List.append_assoc,hc];show cs++ck V cur (p :: l')=_;rw [C0u hv]
 ·rw [if_neg hv] at ho;have:=List.length_pos_iff.2 h0;refine⟨cs++[cur],[p],by rw [ho];simp,by simp,by simp;omega,?_,fun l' => ?_⟩
  ·intro q hq;exact List.mem_append_right _ hq
  ·rw [List.append_assoc,hc];show cs++ck V cur (p :: l')=_;simp only [ck];rw [if_neg hv];simp
section
variable {l:List A2}
theorem B5o (h:Chs l):Tot (loop (U3 l) (0:Int)) (fun x=>x = .inr ()):=by
 have hlen:=h.len;refine Tot.rng l.length (fun i (_:Unit)=>(i:Int)) (fun _ _=>True) _ () rfl trivial (fun i _ hi _ => ?_) (fun _ _ => ?_)
 ·unfold U3;refine Tot.iteT (decide_eq_true (show(i:Int)<(l.length:Int) by omega)) ?_;have hci:l[i]∈l:=List.getElem_mem hi;have hgd:=h.all _ hci;refine Tot.bindIdx i rfl hi ?_;refine Tot.jnR (fun m=>m=false) (fun j2 hj2 => ?_) (fun m hm => ?_)
  ·refine Tot.bindOf (B4c hgd) ?_;refine Tot.iteF rfl ?_;refine Tot.ite (fun e => ?_) (fun e=>hj2 _ rfl);have hi0:0<i:=by have:=of_decide_eq_true e;omega
   obtain⟨k,rfl⟩:∃ k,i=k+1:=⟨i-1,by omega⟩;refine Tot.bindIdx k (A3o (n:=l.length) (by omega) (by omega)) (by omega) ?_;refine Tot.bindOf (B2g (h.all _ (List.getElem_mem (by omega))).val.addr.1 hgd.val.addr.1) ?_;refine hj2 _ ?_;have:=(A9d _ _).2 (h.asc k hi);exact decide_eq_false (by omega)
  ·subst hm;refine Tot.iteF rfl ?_;exact Tot.step () (D6 hi (by omega)) trivial
 ·unfold U3;refine Tot.iteF (decide_eq_false (show ¬ (l.length:Int)<(l.length:Int) by omega)) ?_;exact Tot.last rfl
theorem C1i {S:List A1} {out:List A7} {p:A1} (h:Beg bW uW [] S out) (hS:S.length≤1000) (hR:∀ q∈S++[p],aR q.fAddr) :
  Tot (H3 out (uW [p]) p ((out.length:Int)==(0:Int))) (fun r=>Beg bW uW [] (S++[p]) r):=by
 rcases h with ⟨rfl,rfl⟩ | ⟨h0,cs,cur,rfl,h1,h2,h3,h4⟩
 ·have:=B5k (out:=[]) (u:=uW [p]) (p:=p) (by simp);exact Tot.of this (by simpa using Beg.new (V:=bW) (msg:=uW) (pre:=[]) (p:=p))
 ·have e:(((([]:List A7)++cs.map uW++[uW cur]).length:Int)==0)=false:=by
   rw [beq_eq_false_iff_ne];simp;omega
  rw [e];refine Tot.of (moreW (out:=[]++cs.map uW) (c:=cur) (by simp;omega) h1 (by omega) fun q hq=>hR q ?_) ?_
  ·rcases List.mem_append.1 hq with hq | hq
   ·exact List.mem_append_left _ (h3 q hq)
   ·exact List.mem_append_right _ hq
  ·exact Beg.more h1 h2 h3 h4 rfl
theorem B6k (h:Chs l):Tot (loop (U4 l) ((0:Int),([]:List A7))) (fun x=>x=(chunks bW (goneL l)).map uW):=by
 have hlen:=h.len;refine Tot.rng l.length (fun i (out:List A7)=>((i:Int),out)) (fun i out=>Beg bW uW [] (goneL (l.take i)) out) _ [] rfl (.inl ⟨by simp [goneL],rfl⟩) (fun i out hi hI => ?_) (fun out hI => ?_)
 ·unfold U4;refine Tot.iteT (decide_eq_true (show(i:Int)<(l.length:Int) by omega)) ?_;have hci:l[i]∈l:=List.getElem_mem hi;have hgd:=h.all _ hci;have hsn:l.take (i+1)=l.take i++[l[i]]:=G2 hi;refine Tot.bindIdx i rfl hi ?_;refine Tot.jnR (fun m=>Beg bW uW [] (goneL (l.take (i+1))) m) (fun j hj => ?_) (fun m hm=>Tot.step m (by rw [D6 hi (by omega)]) hm);cases hh:l[i].fHas with
  | false =>
   refine Tot.iteT rfl ?_;refine Tot.bindOf A9t ?_;have hgl:=A3f (l.take i);refine Tot.bindT (C1i (S:=goneL (l.take i)) (p:=l[i].fPrefix) hI (by simp at hgl;omega) fun q hq => ?_) fun r hr=>hj _ ?_
   ·rcases List.mem_append.1 hq with hq | hq
    ·obtain⟨c,hc,_,rfl⟩:=A85 hq;exact(h.all c (List.mem_of_mem_take hc)).val.addr.1
    ·rw [List.mem_singleton.1 hq];exact hgd.val.addr.1
   ·rw [hsn,A6n,hh,if_neg (by simp)];exact hr
  | true =>
   refine Tot.iteF rfl ?_;refine hj _ ?_;rw [hsn,A6n,hh,if_pos rfl];exact hI
 ·unfold U4;refine Tot.iteF (decide_eq_false (show ¬ (l.length:Int)<(l.length:Int) by omega)) ?_;refine Tot.last ?_;rw [List.take_of_length_le (Nat.le_refl _)] at hI;simpa using hI.done
theorem C1j {a:D3} (ha:isD a) {pre:List A7} {S:List A1} {out:List A7} {p:A1} (h:Beg (bA a.fNext) (uAa a) pre S out) (hp:pre.length≤80000000) (hS:S.length≤1000) (hR:∀ q∈S++[p],aR q.fAddr) {b:Bool} (hb:b=true↔S=[]) :
  Tot (H3 out (uAa a [p]) p b) (fun r=>Beg (bA a.fNext) (uAa a) pre (S++[p]) r):=by
 rcases h with ⟨rfl,rfl⟩ | ⟨h0,cs,cur,rfl,h1,h2,h3,h4⟩
 ·rw [hb.2 rfl];have:=B5k (out:=out) (u:=uAa a [p]) (p:=p) (by omega);exact Tot.of this Beg.new
 ·have e:b=false:=by
   rw [Bool.eq_false_iff];exact fun e=>h0 (hb.1 e)
  rw [e];obtain⟨n,x,m,hd,rfl⟩:=ha;refine Tot.of (moreA hd (out:=pre++cs.map (uAa (mkD n x m))) (c:=cur) (by simp;omega) (by omega) fun q hq=>hR q ?_) ?_
  ·rcases List.mem_append.1 hq with hq | hq
   ·exact List.mem_append_left _ (h3 q hq)
   ·exact List.mem_append_right _ hq
  ·exact Beg.more h1 h2 h3 h4 rfl
theorem B9j {a:D3} (h:isD a):G8 a=some a:=by
 obtain⟨n,x,m,_,rfl⟩:=h;exact B6e
def Dn (l:List A2) (A:List D3) (d:List Bool):Prop:=d.length=l.length∧∀ (k:Nat) (h:k<l.length) (h':k<d.length),l[k].fHas=true→(d[k]=true↔l[k].fRoute.fAttrs∈A)
theorem B9k (h:Chs l) {i:Nat} (hi:i<l.length) (hh:l[i].fHas=true) (hA:l[i].fRoute.fAttrs∉FO (l.take i)) {d:List Bool} (hd:Dn l (FO (l.take i)) d) {pre:List A7} (hp:pre.length≤80000000) :
  Tot (loop (U5 l l[i]) (true,(i:Int),d,pre)) (fun r=>Dn l (FO (l.take (i+1))) r.1∧r.2=pre++(chunks (bA l[i].fRoute.fAttrs.fNext) (sel l[i].fRoute.fAttrs l)).map (uAa l[i].fRoute.fAttrs)):=by
 have hlen:=h.len;have hD:=h.isD (List.getElem_mem hi) hh;have hsi:sel l[i].fRoute.fAttrs (l.take i)=[]:=B7c hA;refine Tot.rng (β:=Bool×List Bool×List A7) (l.length-i) (fun k b=>(b.1,((i+k:Nat):Int),b.2.1,b.2.2)) (fun k b=>(b.1=true↔sel l[i].fRoute.fAttrs (l.take (i+k))=[])∧Beg (bA l[i].fRoute.fAttrs.fNext) (uAa l[i].fRoute.fAttrs) pre (sel l[i].fRoute.fAttrs (l.take (i+k))) b.2.2∧b.2.1.length=l.length ∧
  (∀ (q:Nat) (hq:q<l.length) (hq':q<b.2.1.length),l[q].fHas=true→(b.2.1[q]=true↔l[q].fRoute.fAttrs∈FO (l.take i)∨(q<i+k∧l[q].fRoute.fAttrs=l[i].fRoute.fAttrs)))) _ (true,d,pre) rfl ?_ (fun k b hk hI => ?_) (fun b hI => ?_)
 ·refine⟨by simp [hsi],.inl ⟨by simpa using hsi,rfl⟩,hd.1,fun q hq hq' hc => ?_⟩;rw [hd.2 q hq hq' hc];constructor
  ·intro e;exact .inl e
  ·rintro(e | ⟨e1,e2⟩)
   ·exact e
   ·exfalso;have hm:l[q]∈l.take i:=by
     rw [List.mem_take_iff_getElem];exact⟨q,by omega,rfl⟩
    exact hA ((A9w _ _).2 ⟨l[q],hm,hc,e2⟩)
 ·obtain⟨b1,b2,b3⟩:=b;obtain⟨h1,h2,h3,h4⟩:=hI;simp only at h1 h2 h3 h4;have hj:i+k<l.length:=by omega
  have hsn:l.take (i+(k+1))=l.take (i+k)++[l[i+k]]:=G2 hj;unfold U5;refine Tot.iteT (decide_eq_true (by simp only;omega)) ?_;refine Tot.bindIdx (i+k) rfl hj ?_;refine Tot.jnR (fun m=>m=(l[i+k].fHas&&aD l[i+k].fRoute.fAttrs l[i].fRoute.fAttrs)) (fun j hjj => ?_) (fun m hm => ?_)
  ·cases hc:l[i+k].fHas with
   | true =>
    refine Tot.iteT rfl ?_;refine Tot.bindOf (B5m (h.isD (List.getElem_mem hj) hc) hD) ?_;exact hjj _ (by rw [hc];rfl)
   | false =>
    refine Tot.iteF rfl ?_;exact hjj _ (by rw [hc];rfl)
  ·subst hm;have hw:w64 (((i+k:Nat):Int)+1)=((i+(k+1):Nat):Int):=D6 hj (by omega);have hss:=B2s l[i].fRoute.fAttrs (l.take (i+k)) l[i+k];have hsl:=A5h l[i].fRoute.fAttrs (l.take (i+k));refine Tot.jnR (fun m=>(m.1=true↔sel l[i].fRoute.fAttrs (l.take (i+(k+1)))=[])∧Beg (bA l[i].fRoute.fAttrs.fNext) (uAa l[i].fRoute.fAttrs) pre (sel l[i].fRoute.fAttrs (l.take (i+(k+1)))) m.2.2∧m.2.1.length=l.length ∧
    (∀ (q:Nat) (hq:q<l.length) (hq':q<m.2.1.length),l[q].fHas=true→(m.2.1[q]=true↔l[q].fRoute.fAttrs∈FO (l.take i)∨(q<i+(k+1)∧l[q].fRoute.fAttrs=l[i].fRoute.fAttrs)))) (fun j2 hj2 => ?_) (fun m hm=>Tot.step m (by rw [hw]) hm)
   cases he:(l[i+k].fHas&&aD l[i+k].fRoute.fAttrs l[i].fRoute.fAttrs) with
   | true =>
    rw [he,if_pos rfl] at hss;rw [Bool.and_eq_true,A6m] at he;refine Tot.iteT rfl ?_;refine Tot.bindOf (B9j (h.isD (List.getElem_mem hj) he.1)) ?_;have hb:=C1j hD (p:=l[i+k].fPrefix) h2 hp (by simp at hsl;omega) (fun q hq=>by
     rcases List.mem_append.1 hq with hq | hq
     ·obtain⟨c,hc,_,_,rfl⟩:=A9g hq;exact(h.all c (List.mem_of_mem_take hc)).val.addr.1
     ·rw [List.mem_singleton.1 hq];exact(h.all _ (List.getElem_mem hj)).val.addr.1) h1
    rw [he.2];refine Tot.bindT hb fun r hr => ?_;refine Tot.bindIdx (i+k) rfl (show i+k<b2.length by omega) ?_;refine Tot.bindIdx (i+k) rfl (show i+k<b2.length by omega) ?_;refine hj2 _ ⟨?_,?_,by simpa using h3,fun q hq hq' hc => ?_⟩
    ·rw [hsn,hss];simp
    ·rw [hsn,hss];exact hr
    ·simp only [Int.toNat_natCast];rw [List.getElem_set]
     by_cases eq:i+k=q
     ·subst eq;rw [if_pos rfl];simp [he.2]
     ·rw [if_neg eq,h4 q hq (by omega) hc];constructor
      ·rintro(e | ⟨e1,e2⟩)
       ·exact .inl e
       ·exact .inr ⟨by omega,e2⟩
      ·rintro(e | ⟨e1,e2⟩)
       ·exact .inl e
       ·exact .inr ⟨by omega,e2⟩
   | false =>
    rw [he,if_neg (by simp)] at hss;refine Tot.iteF rfl ?_;refine hj2 _ ⟨?_,?_,h3,fun q hq hq' hc => ?_⟩
    ·rw [hsn,hss];exact h1
    ·rw [hsn,hss];exact h2
    ·rw [h4 q hq hq' hc];constructor
     ·rintro(e | ⟨e1,e2⟩)
      ·exact .inl e
      ·exact .inr ⟨by omega,e2⟩
     ·rintro(e | ⟨e1,e2⟩)
      ·exact .inl e
      ·refine .inr ⟨?_,e2⟩
       by_cases eq:i+k=q
       ·subst eq;rw [hc,Bool.true_and,A6m.2 e2] at he;cases he
       ·omega
 ·obtain⟨b1,b2,b3⟩:=b;obtain⟨h1,h2,h3,h4⟩:=hI;simp only at h1 h2 h3 h4;have hil:i+(l.length-i)=l.length:=by omega
  rw [hil] at h1 h2 h4;unfold U5;refine Tot.iteF (decide_eq_false (by simp only;omega)) ?_;refine Tot.last ⟨⟨h3,fun q hq hq' hc => ?_⟩,?_⟩
  ·rw [h4 q hq hq' hc,G2 hi,A5g,foS,if_pos ⟨hh,hA⟩];simp [hq]
  ·rw [List.take_of_length_le (Nat.le_refl _)] at h2;exact h2.done
theorem B9l (h:Chs l):A3v l=some (packF l,0):=by
 have hlen:=h.len;refine Tot.eq ?_;unfold A3v;refine Tot.bindT (B5o h) fun x hx => ?_;subst hx;refine Tot.bindT (B6k h) fun p hp => ?_;subst hp;refine Tot.chk ?_ ?_
 ·have:(LIM:Int)=4294967296:=rfl;simp only [Bool.and_eq_true,decide_eq_true_eq];omega
 have hcl:=A1v bW (goneL l);have hgl:=A3f l;refine Tot.bindRng (β:=List Bool) l.length (fun i d=>((i:Int),d,(chunks bW (goneL l)).map uW++(FO (l.take i)).flatMap fun a=>(chunks (bA a.fNext) (sel a l)).map (uAa a))) (fun i d=>Dn l (FO (l.take i)) d) (fun r=>r=packF l) (List.replicate (l.length:Int).toNat false) (by simp [FO]) ?_ (fun i d hi hI => ?_) (fun d hI => ?_) (fun x hx=>Tot.some (by rw [hx]))
 ·refine⟨by simp,fun k hk hk' hc => ?_⟩;simp [FO]
 ·unfold A0i;refine Tot.iteT (decide_eq_true (by simp only;omega)) ?_;have hsn:l.take (i+1)=l.take i++[l[i]]:=G2 hi;have hF:=A5g (l.take i) l[i];refine Tot.jnR (fun m=>Dn l (FO (l.take (i+1))) m.1∧m.2=(chunks bW (goneL l)).map uW++(FO (l.take (i+1))).flatMap fun a=>(chunks (bA a.fNext) (sel a l)).map (uAa a)) (fun j hj => ?_) (fun m hm=>Tot.step m.1 (by rw [D6 hi (by omega),hm.2]) hm.1);refine Tot.bindIdx i rfl hi ?_;refine Tot.jnR (fun m=>m=false↔(l[i].fHas=true∧l[i].fRoute.fAttrs∉FO (l.take i))) (fun j2 hj2 => ?_) (fun m hm => ?_)
  ·cases hh:l[i].fHas with
   | false =>
    refine Tot.iteT rfl ?_;exact hj2 _ (by simp [hh])
   | true =>
    refine Tot.iteF rfl ?_;refine Tot.bindIdx i rfl (by rw [hI.1];exact hi) ?_;refine Tot.bindIdx i rfl (by rw [hI.1];exact hi) ?_;refine hj2 _ ?_;rw [← hI.2 i hi (by rw [hI.1];exact hi) hh];simp [hh]
  ·cases m with
   | true =>
    refine Tot.iteT rfl ?_;have hF':FO (l.take (i+1))=FO (l.take i):=by
     rw [hsn,hF,foS,if_neg];intro e;have:=hm.2 e;cases this
    refine hj _ ?_;rw [hF'];exact⟨hI,rfl⟩
   | false =>
    refine Tot.iteF rfl ?_;obtain⟨hh,hA⟩:=hm.1 rfl;have hF':FO (l.take (i+1))=FO (l.take i)++[l[i].fRoute.fAttrs]:=by
     rw [hsn,hF,foS,if_pos ⟨hh,hA⟩]
    have hfl:=B4d (l.take i);have h3:((FO (l.take i)).flatMap fun a=>(chunks (bA a.fNext) (sel a l)).map (uAa a)).length≤1000*(FO (l.take i)).length:=A9h _ _ _ fun a _=>by
     have:=A1v (bA a.fNext) (sel a l);have:=A5h a l;rw [List.length_map];omega
    have h4:(FO (l.take i)).length≤1000:=by rw [List.length_take] at hfl;omega
    refine Tot.bindT (B9k h hi hh hA hI (by rw [List.length_append,List.length_map];omega)) fun r hr=>hj _ ⟨hr.1,?_⟩;rw [hr.2,hF',List.flatMap_append];simp
 ·unfold A0i;refine Tot.iteF (decide_eq_false (by simp only;omega)) ?_;refine Tot.last ?_;rw [List.take_of_length_le (Nat.le_refl _)];rfl
end
theorem B9m (a m:Int) (hm:0<m) (hb:m≤4611686018427387904):J6 a m=some (a % m):=by
 obtain⟨h0,h1⟩:=B51 a hm;unfold J6;refine C12 (by simp;omega) ?_;unfold jn;rcases B80 a hm with h | ⟨h,hn⟩
 ·rw [h];exact B50 (by simp;omega) rfl
 ·rw [h];refine B4z (by simp;omega) ?_;rw [show a % m-m+m=a % m from by omega,G3 (by omega) (by omega)]
def DeckOk (d:B1):Prop:=0≤d.fAt∧d.fAt≤d.fL.length∧d.fL.length≤9223372036854775807
theorem A41 (d:B1) (hd:DeckOk d) (n:Int) (hn:0<n) (hn':n≤4611686018427387904):Tot (F6 d n) (fun x=>0≤x.1∧x.1<n∧DeckOk x.2):=by
 obtain⟨h0,h1,h2⟩:=hd;unfold F6;refine Tot.ite (fun h => ?_) (fun h => ?_)
 ·exact Tot.some ⟨Int.le_refl _,hn,h0,h1,h2⟩
 ·obtain⟨k,hk⟩:∃ k:Nat,d.fAt=k:=⟨d.fAt.toNat,by omega⟩;have hlt:k<d.fL.length:=by simp at h;omega
  obtain⟨m0,m1⟩:=B51 d.fL[k] hn;rw [G3 (n:=d.fAt+1) (by omega) (by omega),G3 (n:=d.fAt+1-1) (by omega) (by omega)];refine Tot.bindIdx k (by omega) hlt (Tot.bindOf (B9m _ n hn hn') (Tot.some ⟨m0,m1,?_⟩));exact⟨by simp only;omega,by simp only;omega,h2⟩
theorem C1a (l:List Int) (hl:l.length≤9223372036854775807):DeckOk ⟨l,0⟩:=⟨Int.le_refl _,by simp only;omega,hl⟩
def zR:D4:=D4.mk zP 0 (D3.mk 0 [] zA 0 0 0 [] [] [])
structure rt (c:A2):Prop where
 val:pV c.fPrefix
 z:c.fHas=false→c.fRoute=zR
 h:c.fHas=true→∃ n x m,dOk n x m∧c.fRoute=D4.mk c.fPrefix n (mkD n x m)∧bA x [c.fPrefix]=true
theorem rt.gd {c:A2} (h:rt c):gd c:=by
 refine⟨h.val,fun e => ?_,fun e => ?_⟩
 ·obtain⟨n,x,m,_,h2,_⟩:=h.h e;rw [h2]
 ·obtain⟨n,x,m,h1,h2,h3⟩:=h.h e;exact⟨n,x,m,h1,by rw [h2],h3⟩
theorem B4e {V:List A1→Bool}:∀ (l cur:List A1) (c:List A1),c∈ck V cur l→c.length≤cur.length+l.length
 | [],cur,c,h=>by simp [ck] at h;subst h;simp
 | p :: l,cur,c,h=>by
  simp only [ck] at h;split at h
  ·have:=B4e l _ c h;simp at this ⊢;omega
  ·rcases List.mem_cons.1 h with rfl | h
   ·simp
   ·have:=B4e l _ c h;simp at this ⊢;omega
theorem B0g {V:List A1→Bool} {l c:List A1} (h:c∈chunks V l):c.length≤l.length:=by
 cases l with
 | nil=>cases h
 | cons p l=>have:=B4e l [p] c h;simp at this ⊢;omega
theorem A9x {l:List A2} (h:Chs l):(packF l).length≤2000000:=by
 have hlen:=h.len;have hcl:=A1v bW (goneL l);have hgl:=A3f l;have hfl:=B4d l;have h3:((FO l).flatMap fun a=>(chunks (bA a.fNext) (sel a l)).map (uAa a)).length≤1000*(FO l).length:=A9h _ _ _ fun a _=>by
  have:=A1v (bA a.fNext) (sel a l);have:=A5h a l;rw [List.length_map];omega
 unfold packF;rw [List.length_append,List.length_map];omega
theorem B9n {l:List A2} (h:Chs l):∀ x∈packF l,(x.fAttrs=noD∨isD x.fAttrs)∧x.fWithdraw.length≤100000∧x.fAnnounce.length≤100000:=by
 have hlen:=h.len;intro x hx;unfold packF at hx;rcases List.mem_append.1 hx with hx | hx
 ·obtain⟨c,hc,rfl⟩:=List.mem_map.1 hx;have:=B0g hc;have:=A3f l;exact⟨.inl rfl,(by show c.length≤_;omega),by simp [uW]⟩
 ·obtain⟨a,ha,hx⟩:=List.mem_flatMap.1 hx;obtain⟨c,hc,rfl⟩:=List.mem_map.1 hx;have:=B0g hc;have:=A5h a l;exact⟨.inr (h.foD ha),by simp [uAa],(by show c.length≤_;omega)⟩
def rk (r:D4):Prop:=pV r.fPrefix∧∃ n x m,dOk n x m∧r=D4.mk r.fPrefix n (mkD n x m)∧bA x [r.fPrefix]=true
theorem copyRoute {r:D4} (h:rk r):R6 [r]=some [r]:=by
 obtain⟨_,n,x,m,_,e,_⟩:=h;obtain⟨p,f,a⟩:=r;simp only [D4.mk.injEq] at e;obtain⟨_,rfl,rfl⟩:=e;unfold R6;rw [B9];simp [N1,idx,B6e,chk,LIM,G3];rw [B9];simp [N1]
theorem sameA0:I1 zR.fAttrs zR.fAttrs=some true:=by
 have e0:(loop (H2 zR.fAttrs zR.fAttrs) 0)=some (.inr ()):=by
  rw [B9];simp [H2,zR]
 have e1:(loop (I8 zR.fAttrs zR.fAttrs) 0)=some (.inr ()):=by
  rw [B9];simp [I8,zR]
 have e2:(loop (I9 zR.fAttrs zR.fAttrs) 0)=some (.inr ()):=by
  rw [B9];simp [I9,zR]
 have e3:(loop (J0 zR.fAttrs zR.fAttrs) 0)=some (.inr ()):=by
  rw [B9];simp [J0,zR]
 unfold I1;simp [e0,e1,e2,e3,jn]
theorem B35 {r s:D4} (h:(rk r∧rk s)∨(r=zR∧s=zR)):Tot (T9 r s) (fun _=>True):=by
 have ha:∃ b,I1 r.fAttrs s.fAttrs=some b:=by
  rcases h with ⟨⟨_,n,x,m,hd,e,_⟩,_,n',x',m',hd',e',_⟩ | ⟨rfl,rfl⟩
  ·rw [e,e'];exact⟨_,B5m ⟨n,x,m,hd,rfl⟩ ⟨n',x',m',hd',rfl⟩⟩
  ·exact⟨_,sameA0⟩
 obtain⟨b,hb⟩:=ha;unfold T9;refine Tot.jn (Tot.ite (fun _=>Tot.bindOf hb (Tot.some trivial)) (fun _=>Tot.some trivial))
theorem B5p {l:List D4} (hl:l.length≤1000) (p:A1):Tot (A1x l p) (fun r=>(r.2=true→r.1∈l∧r.1.fPrefix=p)∧(r.2=false→r.1=zR)):=by
 unfold A1x;refine Tot.bindRng l.length (fun i (_:Unit)=>(i:Int)) (fun _ _=>True) (fun x=>x = .inr ()∨∃ r∈l,r.fPrefix=p∧x = .inl r) () rfl trivial (fun i _ hi _ => ?_) (fun _ _ => ?_) (fun x hx => ?_)
 ·unfold A08;refine Tot.iteT (decide_eq_true (by omega)) ?_;refine Tot.bindIdx i rfl hi ?_;refine Tot.ite (fun e => ?_) (fun _=>Tot.step () (D6 hi (by omega)) trivial);have e':peq l[i].fPrefix p=true:=e;exact Tot.stop (.inr ⟨l[i],List.getElem_mem hi,A13.1 e',rfl⟩)
 ·unfold A08;refine Tot.iteF (decide_eq_false (by omega)) ?_;exact Tot.last (.inl rfl)
 ·rcases hx with rfl | ⟨r,h1,h2,rfl⟩
  ·exact Tot.some ⟨(fun e=>by cases e),fun _=>rfl⟩
  ·exact Tot.some ⟨fun _=>⟨h1,h2⟩,(fun e=>by cases e)⟩
def asc (l:List A1):Prop:=l.Pairwise pLt
theorem B7e {l:List A1} {p:A1} (hR:∀ q∈l,aR q.fAddr) (hp:aR p.fAddr) (h:asc l) {k:Nat} (hk:k≤l.length) (h1:∀ (j:Nat) (hj:j<l.length),j<k→pLt l[j] p) (h2:∀ h:k<l.length,¬ pLt l[k] p∧l[k]≠p):asc (l.take k++[p]++l.drop k):=by
 have hb:∀ q∈l.take k,pLt q p:=fun q hq=>by
  rw [List.mem_take_iff_getElem] at hq;obtain⟨j,hj,rfl⟩:=hq;exact h1 j (by omega) (by omega)
 have ha:∀ q∈l.drop k,pLt p q:=fun q hq=>by
  obtain⟨j,hj,rfl⟩:=List.getElem_of_mem hq;rw [List.getElem_drop];have hj':k+j<l.length:=by simpa using (by rw [List.length_drop] at hj;omega:k+j<l.length)
  have hkl:k<l.length:=by omega
  obtain⟨h3,h4⟩:=h2 hkl;have hk0:pLt p l[k]:=Classical.byContradiction fun hn=>h4 (B1b (hR _ (List.getElem_mem hkl)) hp h3 hn)
  by_cases hj0:j=0
  ·subst hj0;exact hk0
  ·have:=List.pairwise_iff_getElem.1 h k (k+j) hkl hj' (by omega);exact A6a hp (hR _ (List.getElem_mem hkl)) (hR _ (List.getElem_mem hj')) hk0 this
 unfold asc at *;rw [List.pairwise_append,List.pairwise_append];refine⟨⟨h.sublist (List.take_sublist k l),List.pairwise_singleton _ _,fun a ha' b hb'=>by rw [List.mem_singleton.1 hb'];exact hb a ha'⟩,h.sublist (List.drop_sublist k l),fun a ha' b hb' => ?_⟩;rcases List.mem_append.1 ha' with h5 | h5
 ·exact A6a (hR _ (List.mem_of_mem_take h5)) hp (hR _ (List.mem_of_mem_drop hb')) (hb a h5) (ha b hb')
 ·rw [List.mem_singleton.1 h5];exact ha b hb'
theorem B6l {a b:List D4} {Q:A1→Prop} (qa:∀ r∈a,Q r.fPrefix) (qb:∀ r∈b,Q r.fPrefix) (ha:∀ r∈a,rk r) (hb:∀ r∈b,rk r) (hla:a.length≤100) (hlb:b.length≤100):Tot (A17 a b) (fun ps=>asc ps∧ps.length≤a.length+b.length∧∀ p∈ps,pV p∧Q p):=by
 unfold A17;refine Tot.chk (limB (by omega)) (Tot.chk (limB (by simp;omega)) ?_);have hab:∀ r∈a++b,rk r:=fun r hr=>by
  rcases List.mem_append.1 hr with h | h
  ·exact ha r h
  ·exact hb r h
 have hqb:∀ r∈a++b,Q r.fPrefix:=fun r hr=>by
  rcases List.mem_append.1 hr with h | h
  ·exact qa r h
  ·exact qb r h
 have hlen:(a++b).length=a.length+b.length:=List.length_append;refine Tot.bindRng (β:=List A1) (a++b).length (fun i out=>((i:Int),out)) (fun i out=>asc out∧out.length≤i∧∀ p∈out,pV p∧Q p) (fun ps=>asc ps∧ps.length≤a.length+b.length∧∀ p∈ps,pV p∧Q p) [] rfl ⟨List.Pairwise.nil,Nat.le_refl _,(fun p hp=>by cases hp)⟩ (fun i out hi hI => ?_) (fun out hI => ?_) (fun x hx=>Tot.some hx)
 ·obtain⟨h1,h2,h3⟩:=hI;have hp:=(hab _ (List.getElem_mem hi)).1;have hpq:=hqb _ (List.getElem_mem hi);unfold T8;refine Tot.iteT (decide_eq_true (show(i:Int)<((a++b).length:Int) by omega)) ?_;refine Tot.bindIdx i rfl hi (Tot.bindIdx i rfl hi ?_);generalize hP:(a++b)[i]=x at hp hpq;refine Tot.bindLoop (fun s:Int=>∃ k:Nat,s=k∧k≤out.length∧∀ (j:Nat) (hj:j<out.length),j<k→pLt out[j] x.fPrefix) (fun s=>((out.length:Int)-s).toNat) (fun s:Int=>∃ k:Nat,s=k∧k≤out.length∧(∀ (j:Nat) (hj:j<out.length),j<k→pLt out[j] x.fPrefix)∧∀ h:k<out.length,¬ pLt out[k] x.fPrefix) ⟨0,rfl,Nat.zero_le _,fun j hj h=>absurd h (by omega)⟩ (fun s hs => ?_) (fun s hs => ?_)
  ·obtain⟨k,rfl,h4,h5⟩:=hs;unfold A0r;refine Tot.jnR (fun m=>(m=true→∃ h:k<out.length,pLt out[k] x.fPrefix)∧(m=false→∀ h:k<out.length,¬ pLt out[k] x.fPrefix)) (fun j hj => ?_) (fun m hm => ?_)
   ·refine Tot.ite (fun e => ?_) (fun e => ?_)
    ·have hk:k<out.length:=by have:=of_decide_eq_true e;simp only at this;omega
     refine Tot.bindIdx k rfl hk (Tot.bindIdx k rfl hk ?_);refine Tot.bindOf (B2g (h3 _ (List.getElem_mem hk)).1.addr.1 hp.addr.1) ?_;refine hj _ ⟨fun e=>⟨hk,?_⟩,fun e h => ?_⟩
     ·exact(A9d _ _).1 (of_decide_eq_true e)
     ·intro hlt;exact absurd ((A9d _ _).2 hlt) (of_decide_eq_false e)
    ·have hk:¬ k<out.length:=by have:=of_decide_eq_false e;simp only at this;omega
     exact hj _ ⟨(fun e=>by cases e),fun _ h=>absurd h hk⟩
   ·refine Tot.ite (fun e => ?_) (fun e => ?_)
    ·obtain⟨hk,hlt⟩:=hm.1 e;have hw:=D6 hk (n:=out.length) (by omega);refine Tot.next ⟨k+1,hw,hk,fun j hj hjk => ?_⟩ (by rw [hw];omega)
     by_cases hjk':j=k
     ·subst hjk';exact hlt
     ·exact h5 j hj (by omega)
    ·exact Tot.out ⟨k,rfl,h4,h5,hm.2 e⟩
  ·obtain⟨k,rfl,h4,h5,h6⟩:=hs;refine Tot.jnR (fun m=>m=true→∀ h:k<out.length,out[k]≠x.fPrefix) (fun j hj => ?_) (fun m hm => ?_)
   ·refine Tot.ite (fun e => ?_) (fun e => ?_)
    ·have hk:k=out.length:=by simp at e;omega
     exact hj _ fun _ h=>absurd h (by omega)
    ·have hk:k<out.length:=by simp at e;omega
     refine Tot.bindIdx k rfl hk (Tot.bindIdx k rfl hk ?_);refine hj _ fun e' h => ?_;have e2:(!(peq out[k] x.fPrefix))=true:=e';intro h7;rw [A13.2 h7] at e2;cases e2
   ·refine Tot.jnR (fun m'=>asc m'∧m'.length≤i+1∧∀ p∈m',pV p∧Q p) (fun j hj => ?_) (fun m' hm'=>Tot.step m' (by rw [D6 hi (by omega)]) hm');refine Tot.ite (fun e => ?_) (fun e=>hj _ ⟨h1,(show out.length≤i+1 by omega),h3⟩);have hkn:((k:Nat):Int).toNat=k:=by omega
    refine Tot.chk (by simp;omega) (Tot.chk (decide_eq_true (by show((k:Nat):Int).toNat+(out.length-((k:Nat):Int).toNat)≤out.length;omega)) (Tot.chk (limB (by simp;omega)) (Tot.chk (by simp;omega) (Tot.chk (limB (by simp;omega)) (Tot.chk (limB (by simp;omega)) ?_)))));refine hj _ ?_;simp only [hkn];have ht:(out.drop k).take (out.length-k)=out.drop k:=List.take_of_length_le (by simp);rw [ht];refine⟨B7e (fun q hq=>(h3 q hq).1.addr.1) hp.addr.1 h1 h4 h5 fun h=>⟨h6 h,hm e h⟩,?_,fun p hp' => ?_⟩
    ·simp;omega
    ·rcases List.mem_append.1 hp' with h7 | h7
     ·rcases List.mem_append.1 h7 with h7 | h7
      ·exact h3 p (List.mem_of_mem_take h7)
      ·rw [List.mem_singleton.1 h7];exact⟨hp,hpq⟩
     ·exact h3 p (List.mem_of_mem_drop h7)
 ·unfold T8;refine Tot.iteF (decide_eq_false (show ¬ ((a++b).length:Int)<((a++b).length:Int) by omega)) ?_;exact Tot.last ⟨hI.1,(by show out.length≤a.length+b.length;have:=hI.2.1;omega),hI.2.2⟩
structure Chx (l:List A2):Prop where
 all:∀ c∈l,rt c
 ord:asc (l.map (·.fPrefix))
 len:l.length≤1000
theorem Chx.chs {l:List A2} (h:Chx l):Chs l:=by
 refine⟨fun c hc=>(h.all c hc).gd,fun i hi => ?_,h.len⟩;have:=List.pairwise_iff_getElem.1 h.ord i (i+1) (by simp;omega) (by simpa using hi) (by omega);simpa using this
theorem B9o {a b:List D4} {Q:A1→Prop} (qa:∀ r∈a,Q r.fPrefix) (qb:∀ r∈b,Q r.fPrefix) (ha:∀ r∈a,rk r) (hb:∀ r∈b,rk r) (hla:a.length≤100) (hlb:b.length≤100) (to:Int):Tot (A3p to a b) (fun l=>Chx l∧l.length≤a.length+b.length∧∀ c∈l,c.fTo=to∧Q c.fPrefix):=by
 unfold A3p;refine Tot.bindT (B6l qa qb ha hb hla hlb) fun ps hps => ?_;obtain⟨p1,p2,p3⟩:=hps;refine Tot.bindRng (β:=List A2) ps.length (fun i out=>((i:Int),out)) (fun i out=>(out.map (·.fPrefix)).Sublist (ps.take i)∧∀ c∈out,rt c∧c.fTo=to∧Q c.fPrefix) (fun l=>Chx l∧l.length≤a.length+b.length∧∀ c∈l,c.fTo=to∧Q c.fPrefix) [] rfl ⟨List.nil_sublist _,(fun c hc=>by cases hc)⟩ (fun i out hi hI => ?_) (fun out hI => ?_) (fun x hx=>Tot.some hx)
 ·obtain⟨h1,h2⟩:=hI;have hlen:=h1.length_le;unfold A09;refine Tot.iteT (decide_eq_true (show(i:Int)<(ps.length:Int) by omega)) ?_;have hsn:ps.take (i+1)=ps.take i++[ps[i]]:=G2 hi;refine Tot.jnR (fun m=>(m.map (·.fPrefix)).Sublist (ps.take (i+1))∧∀ c∈m,rt c∧c.fTo=to∧Q c.fPrefix) (fun j hj => ?_) (fun m hm=>Tot.step m (by rw [D6 hi (by omega)]) hm);refine Tot.bindIdx i rfl hi ?_;refine Tot.bindT (B5p (by omega) _) fun x hx => ?_;refine Tot.bindT (B5p (by omega) _) fun y hy => ?_;have same:Tot (j out) _:=hj out ⟨by rw [hsn];exact h1.trans (List.sublist_append_left _ _),h2⟩;have more:∀ r,(y.2=false→r=zR)→(y.2=true→rk r∧r.fPrefix=ps[i])→Tot (j (out++[A2.mk to ps[i] y.2 r])) _:=fun r hr0 hr1=>by
   refine hj _ ⟨?_,fun c hc => ?_⟩
   ·rw [hsn,List.map_append];exact h1.append (List.Sublist.refl _)
   ·rcases List.mem_append.1 hc with hc | hc
    ·exact h2 c hc
    ·rw [List.mem_singleton.1 hc];refine⟨⟨(p3 _ (List.getElem_mem hi)).1,hr0,fun e => ?_⟩,rfl,(p3 _ (List.getElem_mem hi)).2⟩;obtain⟨⟨_,n,x,m,g1,g2,g3⟩,g4⟩:=hr1 e;exact⟨n,x,m,g1,by rw [g4] at g2;exact g2,by rw [g4] at g3;exact g3⟩
  refine Tot.jnR (fun _=>True) (fun j1 hj1 => ?_) (fun m _ => ?_)
  ·refine Tot.ite (fun e => ?_) (fun e=>hj1 _ trivial);have e:x.2=y.2:=by simpa using e
   refine Tot.bindT (B35 ?_) fun _ _=>hj1 _ trivial;cases hy2:y.2 with
   | true=>exact .inl ⟨ha _ (hx.1 (e.trans hy2)).1,hb _ (hy.1 hy2).1⟩
   | false=>exact .inr ⟨hx.2 (e.trans hy2),hy.2 hy2⟩
  ·refine Tot.ite (fun _=>same) (fun _ => ?_);have hml:out.length≤i:=by simpa [Nat.min_eq_left (Nat.le_of_lt hi)] using hlen
   refine Tot.jnR (fun r=>(y.2=false→r=zR)∧(y.2=true→rk r∧r.fPrefix=ps[i])) (fun j2 hj2 => ?_) (fun r hr=>Tot.chk (limB (by simp;omega)) (more r hr.1 hr.2));refine Tot.ite (fun e => ?_) (fun e=>hj2 _ ⟨fun _=>rfl,fun e'=>by rw [e] at e';cases e'⟩);have hy1:=hy.1 e;refine Tot.bindOf (copyRoute (hb _ hy1.1)) ?_;refine Tot.bindIdx 0 rfl (by simp) ?_;exact hj2 _ ⟨(fun e'=>by rw [e] at e';cases e'),fun _=>⟨hb _ hy1.1,hy1.2⟩⟩
 ·unfold A09;refine Tot.iteF (decide_eq_false (show ¬ (ps.length:Int)<(ps.length:Int) by omega)) ?_;obtain⟨h1,h2⟩:=hI;rw [List.take_of_length_le (Nat.le_refl _)] at h1;have:=h1.length_le;rw [List.length_map] at this;exact Tot.last ⟨⟨fun c hc=>(h2 c hc).1,p1.sublist h1,(by show out.length≤1000;omega)⟩,(by show out.length≤_;omega),fun c hc=>(h2 c hc).2⟩
-- the deck
def b4 (n:Int):A1:=A1.mk (D1.mk false 0 n) 16
def b6 (n:Int):A1:=A1.mk (D1.mk true n 0) 48
def BL:List A1:=[b4 167772160,b4 167837696,b4 167903232,b4 167968768,b4 168034304,b4 168099840,b6 2306139568115941376,b6 2306139568116006912]
def bk (p:A1):Prop:=p∈BL
theorem B0h {v:Bool} {hi lo:Nat} {n:Nat} (h1:hi<18446744073709551616) (h2:lo<18446744073709551616) (h3:v=true∨(hi=0∧lo<4294967296)) (h5:n≤wid v) (h6:cut (hi*18446744073709551616+lo) (wid v-n)=hi*18446744073709551616+lo):pV (A1.mk (D1.mk v hi lo) n):=by
 refine⟨⟨⟨?_,?_⟩,?_⟩,?_,?_,?_⟩
 ·show(0:Int)≤(hi:Int)∧(hi:Int)<18446744073709551616;omega
 ·show(0:Int)≤(lo:Int)∧(lo:Int)<18446744073709551616;omega
 ·rcases h3 with h3 | h3
  ·exact .inl h3
  ·refine .inr ⟨?_,?_⟩
   ·show(hi:Int)=0;omega
   ·show(lo:Int)<4294967296;omega
 ·show(0:Int)≤(n:Int);omega
 ·show(n:Int)≤((wid v:Nat):Int);omega
 ·show cut (nA (D1.mk v hi lo)) (wid v-((n:Nat):Int).toNat)=nA (D1.mk v hi lo);have e:nA (D1.mk v hi lo)=hi*18446744073709551616+lo:=by simp [nA]
  rw [e,Int.toNat_natCast];exact h6
theorem bk_V {p:A1} (h:bk p):pV p∧p.fLen≤48:=by
 unfold bk BL at h;simp only [List.mem_cons,List.not_mem_nil,or_false] at h;rcases h with rfl | rfl | rfl | rfl | rfl | rfl | rfl | rfl
 ·exact⟨B0h (v:=false) (hi:=0) (lo:=167772160) (n:=16) (by decide) (by decide) (by decide) (by decide) (by decide),(by show(16:Int)≤48;decide)⟩
 ·exact⟨B0h (v:=false) (hi:=0) (lo:=167837696) (n:=16) (by decide) (by decide) (by decide) (by decide) (by decide),(by show(16:Int)≤48;decide)⟩
 ·exact⟨B0h (v:=false) (hi:=0) (lo:=167903232) (n:=16) (by decide) (by decide) (by decide) (by decide) (by decide),(by show(16:Int)≤48;decide)⟩
 ·exact⟨B0h (v:=false) (hi:=0) (lo:=167968768) (n:=16) (by decide) (by decide) (by decide) (by decide) (by decide),(by show(16:Int)≤48;decide)⟩
 ·exact⟨B0h (v:=false) (hi:=0) (lo:=168034304) (n:=16) (by decide) (by decide) (by decide) (by decide) (by decide),(by show(16:Int)≤48;decide)⟩
 ·exact⟨B0h (v:=false) (hi:=0) (lo:=168099840) (n:=16) (by decide) (by decide) (by decide) (by decide) (by decide),(by show(16:Int)≤48;decide)⟩
 ·exact⟨B0h (v:=true) (hi:=2306139568115941376) (lo:=0) (n:=48) (by decide) (by decide) (by decide) (by decide) (by decide),(by show(48:Int)≤48;decide)⟩
 ·exact⟨B0h (v:=true) (hi:=2306139568116006912) (lo:=0) (n:=48) (by decide) (by decide) (by decide) (by decide) (by decide),(by show(48:Int)≤48;decide)⟩
theorem B9p {k:Nat} (hk:k<8):Tot (N7 (k:Int)) bk:=by
 have h:k=0∨k=1∨k=2∨k=3∨k=4∨k=5∨k=6∨k=7:=by omega
 have m:∀ (i:Nat) (hi:i<BL.length),bk BL[i]:=fun i hi=>List.getElem_mem hi;rcases h with rfl | rfl | rfl | rfl | rfl | rfl | rfl | rfl
 ·exact⟨_,rfl,m 0 (by decide)⟩
 ·exact⟨_,rfl,m 1 (by decide)⟩
 ·exact⟨_,rfl,m 2 (by decide)⟩
 ·exact⟨_,rfl,m 3 (by decide)⟩
 ·exact⟨_,rfl,m 4 (by decide)⟩
 ·exact⟨_,rfl,m 5 (by decide)⟩
 ·exact⟨_,rfl,m 6 (by decide)⟩
 ·exact⟨_,rfl,m 7 (by decide)⟩
theorem C0o {n:Nat} (hn:101≤n∧n≤103) (v:Bool):Tot (P2 (n:Int) v) (fun x=>x.fV6=v∧∀ m:Int,0≤m∧m≤5→dOk n x m):=by
 have h:n=101∨n=102∨n=103:=by omega
 have key:∀ x:D1,x.fV6=v→aV x→x≠zA→(x.fV6=v∧∀ m:Int,0≤m∧m≤5→dOk n x m):=fun x h1 h2 h3=>⟨h1,fun m hm=>⟨by omega,h2,h3,by omega⟩⟩;cases v with
 | false =>
  rcases h with rfl | rfl | rfl
  ·exact⟨D1.mk false 0 3221226086,rfl,key _ rfl ⟨⟨by decide,by decide⟩,.inr (by decide)⟩ (by simp [zA])⟩
  ·exact⟨D1.mk false 0 3221226087,rfl,key _ rfl ⟨⟨by decide,by decide⟩,.inr (by decide)⟩ (by simp [zA])⟩
  ·exact⟨D1.mk false 0 3221226088,rfl,key _ rfl ⟨⟨by decide,by decide⟩,.inr (by decide)⟩ (by simp [zA])⟩
 | true =>
  rcases h with rfl | rfl | rfl
  ·exact⟨D1.mk true 2306139568115613695 101,rfl,key _ rfl ⟨⟨by decide,by decide⟩,.inl rfl⟩ (by simp [zA])⟩
  ·exact⟨D1.mk true 2306139568115613695 102,rfl,key _ rfl ⟨⟨by decide,by decide⟩,.inl rfl⟩ (by simp [zA])⟩
  ·exact⟨D1.mk true 2306139568115613695 103,rfl,key _ rfl ⟨⟨by decide,by decide⟩,.inl rfl⟩ (by simp [zA])⟩
theorem bk_A {p:A1} (h:bk p) {x:D1} (hx:x.fV6=p.fAddr.fV6):bA x [p]=true:=by
 have hv:=bk_V h;have hl:=hv.1.len0;have hl2:=hv.2;have hpc:pc p≤7:=by unfold pc;omega
 have hc:∀ v,clen v [p]≤7:=fun v=>by
  simp only [clen];split<;>omega
 have h1:=hc true;have h2:=hc false;have ha:aa x (clen true [p])≤100:=by
  have h3:=C0t (21+clen true [p]);unfold aa alen;split<;>omega
 refine B2p.2 ⟨by simp,?_,?_,by omega,by omega⟩
 ·intro q hq;rw [List.mem_singleton.1 hq];exact hv.1
 ·intro q hq;rw [List.mem_singleton.1 hq];exact hx.symm
theorem B0i (d:B1) (hd:DeckOk d) (to:Int):Tot (G6 d to) (fun r=>(Chx r.1∧r.1.length≤16∧∀ c∈r.1,c.fTo=to∧bk c.fPrefix)∧DeckOk r.2):=by
 unfold G6;refine Tot.bindRng (β:=List D4×List D4×B1) 8 (fun i b=>((i:Int),b.1,b.2.1,b.2.2)) (fun i b=>((∀ r∈b.1,rk r∧bk r.fPrefix)∧b.1.length≤i)∧((∀ r∈b.2.1,rk r∧bk r.fPrefix)∧b.2.1.length≤i)∧DeckOk b.2.2) (fun p=>DeckOk p.1∧((∀ r∈p.2.1,rk r∧bk r.fPrefix)∧p.2.1.length≤8)∧((∀ r∈p.2.2,rk r∧bk r.fPrefix)∧p.2.2.length≤8)) ([],[],d) rfl ⟨⟨(fun r h=>by cases h),Nat.le_refl _⟩,⟨(fun r h=>by cases h),Nat.le_refl _⟩,hd⟩ (fun i b hi hI => ?_) (fun b hI => ?_) (fun p hp => ?_)
 ·obtain⟨la,lb,d⟩:=b;obtain⟨⟨a1,a2⟩,⟨b1,b2⟩,hd⟩:=hI;simp only at a1 a2 b1 b2 hd;unfold G7;refine Tot.iteT (decide_eq_true (show(i:Int)<8 by omega)) ?_;refine Tot.bindT (B9p hi) fun p hp => ?_;refine Tot.bindT (A41 d hd 3 (by omega) (by omega)) fun x1 h1 => ?_;refine Tot.bindOf A9t ?_;obtain⟨n,hn,hn'⟩:∃ n:Nat,w64 (101+x1.1)=(n:Int)∧101≤n∧n≤103:=by
   refine⟨(101+x1.1).toNat,?_,by omega,by omega⟩;rw [G3 (by omega) (by omega)];omega
  rw [hn];refine Tot.bindT (C0o hn' p.fAddr.fV6) fun x hx => ?_;refine Tot.bindT (A41 x1.2 h1.2.2 2 (by omega) (by omega)) fun x2 h2 => ?_;refine Tot.bindT (A41 x2.2 h2.2.2 4 (by omega) (by omega)) fun x3 h3 => ?_;have rkm:∀ m:Int,0≤m∧m≤5→rk (D4.mk p n (mkD n x m))∧bk p:=fun m hm=>⟨⟨(bk_V hp).1,n,x,m,hx.2 m hm,rfl,bk_A hp hx.1⟩,hp⟩;have r1:=rkm x2.1 ⟨h2.1,by omega⟩;have r5:=rkm 5 (by omega);have app:∀ {l:List D4} {r:D4},(∀ r∈l,rk r∧bk r.fPrefix)∧l.length≤i→rk r∧bk r.fPrefix→(∀ q∈l++[r],rk q∧bk q.fPrefix)∧(l++[r]).length≤i+1:=fun {l r} hl hr=>⟨fun q hq=>by
   rcases List.mem_append.1 hq with hq | hq
   ·exact hl.1 q hq
   ·rw [List.mem_singleton.1 hq];exact hr,by simp;omega⟩
  have keep:∀ {l:List D4},(∀ r∈l,rk r∧bk r.fPrefix)∧l.length≤i→(∀ q∈l,rk q∧bk q.fPrefix)∧l.length≤i+1:=fun hl=>⟨hl.1,by omega⟩;refine Tot.jnR (fun m=>((∀ r∈m.1,rk r∧bk r.fPrefix)∧m.1.length≤i+1)∧((∀ r∈m.2,rk r∧bk r.fPrefix)∧m.2.length≤i+1)) (fun j hj => ?_) (fun m hm=>Tot.step (m.1,m.2,x3.2) (by rw [D6 hi (by omega)]) ⟨hm.1,hm.2,h3.2.2⟩);refine Tot.ite (fun _=>Tot.chk (limB (by simp;omega)) (hj _ ⟨keep ⟨a1,a2⟩,app ⟨b1,b2⟩ r1⟩)) (fun _ => ?_);refine Tot.ite (fun _=>Tot.chk (limB (by simp;omega)) (hj _ ⟨app ⟨a1,a2⟩ r1,keep ⟨b1,b2⟩⟩)) (fun _ => ?_);refine Tot.ite (fun _=>Tot.chk (limB (by simp;omega)) (Tot.chk (limB (by simp;omega)) (hj _ ⟨app ⟨a1,a2⟩ r5,app ⟨b1,b2⟩ r1⟩))) (fun _ => ?_);exact hj _ ⟨keep ⟨a1,a2⟩,keep ⟨b1,b2⟩⟩
 ·unfold G7;refine Tot.iteF (decide_eq_false (show ¬ ((8:Nat):Int)<8 by decide)) ?_;exact Tot.last ⟨hI.2.2,hI.1,hI.2.1⟩
 ·refine Tot.bindT (B9o (Q:=bk) (fun r hr=>(hp.2.2.1 r hr).2) (fun r hr=>(hp.2.1.1 r hr).2) (fun r hr=>(hp.2.2.1 r hr).1) (fun r hr=>(hp.2.1.1 r hr).1) (by omega) (by omega) to) fun r hr=>Tot.some ⟨⟨hr.1,(by have:=hp.2.1.2;have:=hp.2.2.2;have:=hr.2.1;show r.length≤16;omega),hr.2.2⟩,hp.1⟩
-- what lists cut into messages hold
section
variable {V:List A1→Bool}
theorem B4f:∀ (l cur:List A1),(ck V cur l).flatten=cur++l
 | [],cur=>by simp [ck]
 | p :: l,cur=>by
  simp only [ck];split
  ·rw [B4f l];simp
  ·rw [List.flatten_cons,B4f l];simp
theorem B0j (l:List A1):(chunks V l).flatten=l:=by
 cases l with
 | nil=>rfl
 | cons p l=>simp only [chunks];rw [B4f];rfl
theorem B4g:∀ (l cur:List A1),(∀ p∈l,V [p]=true)→V cur=true→cur≠[]→∀ c∈ck V cur l,V c=true∧c≠[]
 | [],cur,_,h,h0,c,hc=>by simp [ck] at hc;subst hc;exact⟨h,h0⟩
 | p :: l,cur,hl,h,h0,c,hc=>by
  simp only [ck] at hc;split at hc
  ·rename_i hv;exact B4g l _ (fun q hq=>hl q (List.mem_cons_of_mem _ hq)) hv (by simp) c hc
  ·rcases List.mem_cons.1 hc with rfl | hc
   ·exact⟨h,h0⟩
   ·exact B4g l _ (fun q hq=>hl q (List.mem_cons_of_mem _ hq)) (hl p (List.mem_cons_self ..)) (by simp) c hc
theorem B0k {l:List A1} (hl:∀ p∈l,V [p]=true):∀ c∈chunks V l,V c=true∧c≠[]:=fun c hc=>by
 cases l with
 | nil=>cases hc
 | cons p l=>exact B4g l [p] (fun q hq=>hl q (List.mem_cons_of_mem _ hq)) (hl p (List.mem_cons_self ..)) (by simp) c hc
end
theorem B2t {α β γ:Type} (msg:List α→β) (sy:β→List γ) (f:α→γ) (h:∀ c,sy (msg c)=c.map f):∀ L:List (List α),(L.map msg).flatMap sy=L.flatten.map f
 | []=>rfl
 | c :: L=>by rw [List.map_cons,List.flatMap_cons,h,B2t msg sy f h L,List.flatten_cons,List.map_append]
theorem B3q {α β γ:Type} (f:α→List β) (g:β→List γ):∀ A:List α,(A.flatMap f).flatMap g=A.flatMap fun a=>(f a).flatMap g
 | []=>rfl
 | a :: A=>by simp only [List.flatMap_cons,List.flatMap_append,B3q f g A]
-- each change once
theorem B8e:∀ {l:List A1},asc l→l.Nodup:=fun {l} h=>List.Pairwise.imp (fun {a b} (hab:pLt a b) (e:a=b)=>B48 b (e ▸ hab)) h
theorem Chx.inj {l:List A2} (h:Chx l) {c c':A2} (hc:c∈l) (hc':c'∈l) (e:c.fPrefix=c'.fPrefix):c=c':=by
 obtain⟨i,hi,rfl⟩:=List.getElem_of_mem hc;obtain⟨j,hj,rfl⟩:=List.getElem_of_mem hc';have hn:=B8e h.ord;have e':(l.map (·.fPrefix))[i]'(by simpa using hi)=(l.map (·.fPrefix))[j]'(by simpa using hj):=by simpa using e
 have:=(List.getElem_inj hn).1 e';subst this;rfl
noncomputable def UP (l:List A2):List A1:=goneL l++(FO l).flatMap fun a=>sel a l
theorem C1b {l:List A2} (p:A1):p∈UP l↔p∈l.map (·.fPrefix):=by
 unfold UP;rw [List.mem_append];constructor
 ·rintro(h | h)
  ·obtain⟨c,h1,_,h3⟩:=A85 h;exact List.mem_map.2 ⟨c,h1,h3⟩
  ·obtain⟨a,_,h⟩:=List.mem_flatMap.1 h;obtain⟨c,h1,_,_,h4⟩:=A9g h;exact List.mem_map.2 ⟨c,h1,h4⟩
 ·intro h;obtain⟨c,hc,rfl⟩:=List.mem_map.1 h;cases hh:c.fHas with
  | false =>
   left;unfold goneL;exact List.mem_map.2 ⟨c,List.mem_filter.2 ⟨hc,by rw [hh];rfl⟩,rfl⟩
  | true =>
   right;refine List.mem_flatMap.2 ⟨c.fRoute.fAttrs,(A9w l _).2 ⟨c,hc,hh,rfl⟩,?_⟩;unfold sel;exact List.mem_map.2 ⟨c,List.mem_filter.2 ⟨hc,by rw [hh,B78];rfl⟩,rfl⟩
theorem B7f (p q:A1):keq33 p q=peq p q:=rfl
theorem C1c {p:A1} (h:pV p):bW [p]=true:=by
 have hpc:=(B9c h).1;have hc:∀ v,clen v [p]≤17:=fun v=>by
  simp only [clen];split<;>omega
 have h1:=hc true;have h2:=hc false;have ha:aw (clen true [p])≤100:=by
  have h3:=C0t (3+clen true [p]);unfold aw;split<;>omega
 refine B2o.2 ⟨by simp,?_,by omega,by omega⟩;intro q hq;rw [List.mem_singleton.1 hq];exact h
theorem B8f {l:List A2} (h:Chs l) {u:A7} (hu:u∈packF l):(∃ c,u=uW c∧VW c∧c≠[])∨∃ n x m c,dOk n x m∧u=uA n x m c∧VA x c∧c≠[]:=by
 unfold packF at hu;rcases List.mem_append.1 hu with hu | hu
 ·obtain⟨c,hc,rfl⟩:=List.mem_map.1 hu;have:=B0k (V:=bW) (l:=goneL l) (fun p hp => ?_) c hc
  ·exact .inl ⟨c,rfl,B2o.1 this.1,this.2⟩
  ·obtain⟨y,hy,_,rfl⟩:=A85 hp;exact C1c (h.all y hy).val
 ·obtain⟨a,ha,hu⟩:=List.mem_flatMap.1 hu;obtain⟨c,hc,rfl⟩:=List.mem_map.1 hu;have:=B0k (V:=bA a.fNext) (l:=sel a l) (fun p hp => ?_) c hc
  ·obtain⟨n,x,m,hd,rfl⟩:=h.foD ha;exact .inr ⟨n,x,m,c,hd,rfl,B2p.1 this.1,this.2⟩
  ·obtain⟨y,hy,hh,rfl,rfl⟩:=A9g hp;obtain⟨n,x,m,_,e,hb⟩:=(h.all y hy).att hh;rw [e];exact hb
end Go.Proofs.YtplbaenjbihekaaGreatDoor

/- Groups, what is packed, decks, the example, in plain Lean. -/
import Derived.Test.YtkhjkjojjdkidaaGreatDoorPureZB
namespace Go.Proofs.YtkhjkjojjdkidaaGreatDoor
open Go Go.Vc
structure gd (c:aChange):Prop where
 val:pV c.fPrefix
 rt:c.fHas=true→c.fRoute.fPrefix=c.fPrefix
 att:c.fHas=true→∃ n x m,dOk n x m∧c.fRoute.fAttrs=mkD n x m∧bA x [c.fPrefix]=true
structure Chs (l:List aChange):Prop where
 all:∀ c∈l,gd c
 asc:∀ (i:Nat) (h:i+1<l.length),pLt (l[i]'(by omega)).fPrefix l[i+1].fPrefix
 len:l.length≤1000
theorem sound_ok {c:aChange} (h:gd c):pack_sound c=some true:=by
 unfold pack_sound
 refine bind_of (pvalid_eq h.val.addr.1) ?_
 rw [validF_iff.2 h.val,if_pos rfl]
 cases hc:c.fHas with
 | false=>rfl
 | true =>
  obtain⟨n,x,m,h1,h2,h3⟩:=h.att hc
  rw [if_neg (by simp)]
  have hp:peq c.fRoute.fPrefix c.fPrefix=true:=peq_iff.2 (h.rt hc)
  refine(if_pos hp).trans ?_
  rw [h2]
  refine bind_of (msg_A (by simp)) ?_
  refine bind_of (valid_A h1 (by simpa using h.val.addr.1) (by simp) (by simp)) ?_
  rw [h3]
def isD (a:aAttrs):Prop:=∃ n x m,dOk n x m∧a=mkD n x m
theorem alike_isD {a b:aAttrs} (ha:isD a) (hb:isD b):alike_Attrs a b=some (aD a b):=by
 obtain⟨n,x,m,_,rfl⟩:=ha
 obtain⟨n',x',m',_,rfl⟩:=hb
 exact alike_D
theorem same_isD {a b:aAttrs} (ha:isD a) (hb:isD b):xref23_SameAttrs a b=some (aD a b):=by
 obtain⟨n,x,m,_,rfl⟩:=ha
 obtain⟨n',x',m',_,rfl⟩:=hb
 exact same_D
def uAa (a:aAttrs) (l:List aPrefix):aUpdate:=aUpdate.mk [] a l
theorem filledD {a:aAttrs} (h:isD a) {l:List aPrefix} (hl:∀ p∈l,aR p.fAddr) (hn:l.length≤90000):pack_filled (pack_group.mk a l) true=some ((chunks (bA a.fNext) l).map (uAa a)):=by
 obtain⟨n,x,m,h,rfl⟩:=h
 exact filledA h hl hn
def goneL (l:List aChange):List aPrefix:=(l.filter fun c => !c.fHas).map (·.fPrefix)
noncomputable def sel (a:aAttrs) (l:List aChange):List aPrefix:=(l.filter fun c=>c.fHas&&aD c.fRoute.fAttrs a).map (·.fPrefix)
open Classical in
/-- attributes in the order in which they come -/
noncomputable def foS (A:List aAttrs) (c:aChange):List aAttrs:=if c.fHas=true∧¬ c.fRoute.fAttrs∈A then A++[c.fRoute.fAttrs] else A
noncomputable def FO (l:List aChange):List aAttrs:=l.foldl foS []
theorem FO_snoc (l:List aChange) (c:aChange):FO (l++[c])=foS (FO l) c:=by unfold FO;rw [List.foldl_append];rfl
theorem goneL_snoc (l:List aChange) (c:aChange):goneL (l++[c])=if c.fHas=true then goneL l else goneL l++[c.fPrefix]:=by
 unfold goneL
 rw [List.filter_append,List.map_append]
 cases h:c.fHas<;>simp [h]
theorem sel_snoc (a:aAttrs) (l:List aChange) (c:aChange):sel a (l++[c])=if (c.fHas&&aD c.fRoute.fAttrs a)=true then sel a l++[c.fPrefix] else sel a l:=by
 unfold sel
 rw [List.filter_append,List.map_append]
 cases h:(c.fHas&&aD c.fRoute.fAttrs a)<;>simp [h]
theorem goneL_len (l:List aChange):(goneL l).length≤l.length:=by unfold goneL;rw [List.length_map];exact List.length_filter_le _ _
theorem sel_len (a:aAttrs) (l:List aChange):(sel a l).length≤l.length:=by unfold sel;rw [List.length_map];exact List.length_filter_le _ _
theorem goneL_mem {l:List aChange} {p:aPrefix} (h:p∈goneL l):∃ c∈l,c.fHas=false∧c.fPrefix=p:=by
 unfold goneL at h
 obtain⟨c,hc,rfl⟩:=List.mem_map.1 h
 rw [List.mem_filter] at hc
 exact⟨c,hc.1,by simpa using hc.2,rfl⟩
theorem sel_mem {a:aAttrs} {l:List aChange} {p:aPrefix} (h:p∈sel a l):∃ c∈l,c.fHas=true∧c.fRoute.fAttrs=a∧c.fPrefix=p:=by
 unfold sel at h
 obtain⟨c,hc,rfl⟩:=List.mem_map.1 h
 rw [List.mem_filter,Bool.and_eq_true,aD_iff] at hc
 exact⟨c,hc.1,hc.2.1,hc.2.2,rfl⟩
theorem FO_mem:∀ (l:List aChange) (a:aAttrs),a∈FO l↔∃ c∈l,c.fHas=true∧c.fRoute.fAttrs=a:=by
 refine snoc_ind (fun a=>by simp [FO]) (fun l c ih a => ?_)
 rw [FO_snoc]
 unfold foS
 split
 ·rename_i h
  rw [List.mem_append,ih a]
  simp only [List.mem_singleton,List.mem_append]
  constructor
  ·rintro(⟨x,hx,h1,h2⟩ | rfl)
   ·exact⟨x,.inl hx,h1,h2⟩
   ·exact⟨c,.inr rfl,h.1,rfl⟩
  ·rintro⟨x,hx | rfl,h1,h2⟩
   ·exact .inl ⟨x,hx,h1,h2⟩
   ·exact .inr h2.symm
 ·rename_i h
  rw [ih a]
  constructor
  ·rintro⟨x,hx,h1,h2⟩
   exact⟨x,List.mem_append_left _ hx,h1,h2⟩
  ·rintro⟨x,hx,h1,h2⟩
   rcases List.mem_append.1 hx with hx | hx
   ·exact⟨x,hx,h1,h2⟩
   ·cases List.mem_singleton.1 hx
    refine(ih a).1 ?_
    refine Classical.byContradiction fun hn=>h ⟨h1,?_⟩
    rw [h2];exact hn
theorem FO_nodup:∀ l:List aChange,(FO l).Nodup:=by
 refine snoc_ind (by simp [FO]) (fun l c ih => ?_)
 rw [FO_snoc]
 unfold foS
 split
 ·rename_i h
  rw [List.nodup_append]
  exact⟨ih,by simp,fun a ha b hb e=>by cases List.mem_singleton.1 hb;subst e;exact h.2 ha⟩
 ·exact ih
theorem FO_len (l:List aChange):(FO l).length≤l.length:=by
 revert l
 refine snoc_ind (by simp [FO]) (fun l c ih => ?_)
 rw [FO_snoc]
 unfold foS
 split<;>simp<;>omega
theorem sel_nil {a:aAttrs} {l:List aChange} (h:a∉FO l):sel a l=[]:=by
 refine List.eq_nil_iff_forall_not_mem.2 fun p hp => ?_
 obtain⟨c,h1,h2,h3,_⟩:=sel_mem hp
 exact h ((FO_mem l a).2 ⟨c,h1,h2,h3⟩)
noncomputable def GR (l:List aChange):List pack_group:=(FO l).map fun a=>pack_group.mk a (sel a l)
theorem find_eq {A:List aAttrs} {f:aAttrs→List aPrefix} {c:aChange} (hA:∀ a∈A,isD a) (hc:isD c.fRoute.fAttrs) (hn:A.length≤1000):Tot (slices_IndexFunc_4 (A.map fun a=>pack_group.mk a (f a)) c) (fun k=>(k = -1∧c.fRoute.fAttrs∉A)∨∃ (i:Nat) (h:i<A.length),k=i∧A[i]=c.fRoute.fAttrs):=by
 unfold slices_IndexFunc_4
 refine Tot.bindRng A.length (fun i (_:Unit)=>(i:Int)) (fun i _=>∀ j (h:j<A.length),j<i→A[j]≠c.fRoute.fAttrs) (fun x=>(x = .inr ()∧c.fRoute.fAttrs∉A)∨∃ (i:Nat) (h:i<A.length),x = .inl (i:Int)∧A[i]=c.fRoute.fAttrs) () rfl (fun j _ h=>absurd h (by omega)) (fun i _ hi hI => ?_) (fun _ hI => ?_) (fun x hx => ?_)
 ·unfold slices_IndexFunc_4_L0
  refine Tot.iteT (decide_eq_true (by rw [List.length_map];omega)) ?_
  refine Tot.bindIdx i rfl (by rw [List.length_map];exact hi) ?_
  rw [List.getElem_map]
  have:pack_Pack_1_2 (pack_group.mk A[i] (f A[i])) c=some (aD A[i] c.fRoute.fAttrs):=by
   unfold pack_Pack_1_2
   exact bind_of (alike_isD (hA _ (List.getElem_mem hi)) hc) rfl
  refine Tot.bindOf this ?_
  refine Tot.ite (fun e=>Tot.stop (.inr ⟨i,hi,rfl,aD_iff.1 e⟩)) (fun e => ?_)
  refine Tot.step () (cast_succ_w hi (by omega)) fun j hj hji => ?_
  by_cases hji':j=i
  ·subst hji'
   intro e'
   rw [aD_iff.2 e'] at e;cases e
  ·exact hI j hj (by omega)
 ·unfold slices_IndexFunc_4_L0
  refine Tot.iteF (decide_eq_false (by rw [List.length_map];omega)) ?_
  refine Tot.last (.inl ⟨rfl,fun hm => ?_⟩)
  obtain⟨j,hj,e⟩:=List.getElem_of_mem hm
  exact hI j hj hj e
 ·rcases hx with ⟨rfl,h⟩ | ⟨i,h,rfl,e⟩
  ·exact Tot.some (.inl ⟨rfl,h⟩)
  ·exact Tot.some (.inr ⟨i,h,rfl,e⟩)
theorem put_group {A:List aAttrs} (hA:A.Nodup) (f:aAttrs→List aPrefix) {i:Nat} (hi:i<A.length) (p:aPrefix) :
  (A.map fun a=>pack_group.mk a (f a)).set i (pack_group.mk A[i] (f A[i]++[p]))=A.map fun a=>pack_group.mk a (if aD A[i] a=true then f a++[p] else f a):=by
 refine List.ext_getElem (by simp) fun k h1 h2 => ?_
 rw [List.getElem_set]
 by_cases e:i=k
 ·subst e
  rw [if_pos rfl,List.getElem_map,aD_self,if_pos rfl]
 ·rw [if_neg e,List.getElem_map,List.getElem_map]
  have hk:k<A.length:=by simpa using h2
  have:A[i]≠A[k]:=fun e'=>e ((List.getElem_inj hA).1 e')
  rw [aD_ne this,if_neg (by simp)]
theorem GR_get {l:List aChange} {i:Nat} (h:i<(GR l).length):(GR l)[i]=pack_group.mk ((FO l)[i]'(by simpa [GR] using h)) (sel ((FO l)[i]'(by simpa [GR] using h)) l):=by
 exact List.getElem_map _
noncomputable def packF (l:List aChange):List aUpdate:=(chunks bW (goneL l)).map uW++(FO l).flatMap fun a=>(chunks (bA a.fNext) (sel a l)).map (uAa a)
section
variable {l:List aChange}
theorem Chs.isD (h:Chs l) {c:aChange} (hc:c∈l) (hh:c.fHas=true):isD c.fRoute.fAttrs:=by
 obtain⟨n,x,m,h1,h2,_⟩:=(h.all c hc).att hh
 exact⟨n,x,m,h1,h2⟩
theorem Chs.foD (h:Chs l) {a:aAttrs} (ha:a∈FO l):Go.Proofs.YtkhjkjojjdkidaaGreatDoor.isD a:=by
 obtain⟨c,hc,h1,rfl⟩:=(FO_mem l a).1 ha
 exact h.isD hc h1
theorem FO_take_mem {k:Nat} {a:aAttrs} (h:a∈FO (l.take k)):a∈FO l:=by
 obtain⟨c,hc,h1,h2⟩:=(FO_mem _ a).1 h
 exact(FO_mem _ a).2 ⟨c,List.mem_of_mem_take hc,h1,h2⟩
theorem Chs.gR (h:Chs l):∀ p∈goneL l,aR p.fAddr:=fun p hp=>by
 obtain⟨c,hc,_,rfl⟩:=goneL_mem hp
 exact(h.all c hc).val.addr.1
theorem Chs.sR (h:Chs l) {a:aAttrs}:∀ p∈sel a l,aR p.fAddr:=fun p hp=>by
 obtain⟨c,hc,_,_,rfl⟩:=sel_mem hp
 exact(h.all c hc).val.addr.1
theorem flat_len {α β:Type} (f:α→List β):∀ (A:List α) (n:Nat),(∀ a∈A,(f a).length≤n)→(A.flatMap f).length≤n*A.length
 | [],n,_=>by simp
 | a :: A,n,h=>by
  have:=flat_len f A n fun b hb=>h b (List.mem_cons_of_mem _ hb)
  have:=h a (List.mem_cons_self ..)
  rw [List.flatMap_cons,List.length_append,List.length_cons,Nat.mul_succ];omega
theorem pack_first (h:Chs l):Tot (loop (pack_Pack_L0 l) ((0:Int),([]:List pack_group),([]:List aPrefix))) (fun x=>x = .inr (GR l,goneL l)):=by
 refine Tot.rng l.length (fun i (_:Unit)=>((i:Int),GR (l.take i),goneL (l.take i))) (fun _ _=>True) _ () rfl trivial (fun i _ hi _ => ?_) (fun _ _ => ?_)
 ·unfold pack_Pack_L0
  refine Tot.iteT (decide_eq_true (by simp only;omega)) ?_
  have hlen:=h.len
  have hci:l[i]∈l:=List.getElem_mem hi
  have hgd:=h.all _ hci
  have hsn:l.take (i+1)=l.take i++[l[i]]:=take_snoc hi
  refine Tot.jnR (fun m=>m=(GR (l.take (i+1)),goneL (l.take (i+1)))) (fun j hj => ?_) (fun m hm=>Tot.step () (by rw [hm,cast_succ_w hi (by omega)]) trivial)
  refine Tot.bindIdx i rfl hi ?_
  refine Tot.jnR (fun m=>m=false) (fun j2 hj2 => ?_) (fun m hm => ?_)
  ·refine Tot.bindOf (sound_ok hgd) ?_
   refine Tot.iteF rfl ?_
   refine Tot.ite (fun e => ?_) (fun e=>hj2 _ rfl)
   have hi0:0<i:=by have:=of_decide_eq_true e;simp only at this;omega
   obtain⟨k,rfl⟩:∃ k,i=k+1:=⟨i-1,by omega⟩
   refine Tot.bindIdx k (cast_pred_w (n:=l.length) (by omega) (by omega)) (by omega) ?_
   refine Tot.bindOf (pcmp_eq (h.all _ (List.getElem_mem (by omega))).val.addr.1 hgd.val.addr.1) ?_
   refine hj2 _ ?_
   have:=(cmpP_lt _ _).2 (h.asc k hi)
   exact decide_eq_false (by omega)
  ·subst hm
   refine Tot.iteF rfl ?_
   cases hh:l[i].fHas with
   | false =>
    refine Tot.iteT rfl ?_
    have hgl:=goneL_len (l.take i)
    refine Tot.chk (limB (by simp at hgl ⊢;omega)) ?_
    refine hj _ ?_
    rw [hsn,goneL_snoc,hh,if_neg (by simp)]
    have:GR (l.take i++[l[i]])=GR (l.take i):=by
     unfold GR
     rw [FO_snoc,foS,hh,if_neg (by simp)]
     refine List.map_congr_left fun a _ => ?_
     rw [sel_snoc,hh,Bool.false_and,if_neg (by simp)]
    rw [this]
   | true =>
    refine Tot.iteF rfl ?_
    have hD:=h.isD hci hh
    have hAl:=FO_len (l.take i)
    have hAl':(FO (l.take i)).length≤1000:=by simp at hAl;omega
    refine Tot.bindT (find_eq (A:=FO (l.take i)) (f:=fun a=>sel a (l.take i)) (c:=l[i]) (fun a ha=>h.foD (FO_take_mem ha)) hD hAl') fun k hk => ?_
    -- the groups with one that holds the attributes
    refine Tot.jnR (fun m=>∃ (q:Nat) (hq:q<(FO (l.take (i+1))).length),m=((q:Int),(FO (l.take (i+1))).map fun a=>pack_group.mk a (sel a (l.take i)))∧(FO (l.take (i+1)))[q]=l[i].fRoute.fAttrs) (fun j3 hj3 => ?_) (fun m hm => ?_)
    ·rcases hk with ⟨rfl,hk⟩ | ⟨q,hq,rfl,hk⟩
     ·refine Tot.iteT (by decide) ?_
      refine Tot.chk (limB (by simp [GR];omega)) ?_
      have hF:FO (l.take (i+1))=FO (l.take i)++[l[i].fRoute.fAttrs]:=by rw [hsn,FO_snoc,foS,if_pos ⟨hh,hk⟩]
      refine hj3 _ ⟨(FO (l.take i)).length,by rw [hF];simp,?_,by simp [hF]⟩
      rw [hF,List.map_append]
      simp only [GR,List.length_map,List.map_cons,List.map_nil]
      rw [sel_nil hk]
     ·refine Tot.iteF (decide_eq_false (by omega)) ?_
      have hF:FO (l.take (i+1))=FO (l.take i):=by
       rw [hsn,FO_snoc,foS,if_neg]
       rintro⟨_,hn⟩
       exact hn (hk ▸ List.getElem_mem hq)
      refine hj3 _ ⟨q,by rw [hF];exact hq,?_,by simp only [hF];exact hk⟩
      rw [hF];rfl
    ·obtain⟨q,hq,rfl,hk⟩:=hm
     have hq':q<((FO (l.take (i+1))).map fun a=>pack_group.mk a (sel a (l.take i))).length:=by rw [List.length_map];exact hq
     have hsl:=sel_len l[i].fRoute.fAttrs (l.take i)
     refine Tot.bindIdx q rfl hq' ?_
     refine Tot.bindIdx q rfl hq' ?_
     refine Tot.chk (limB (by rw [List.getElem_map,hk];simp at hsl ⊢;omega)) ?_
     refine Tot.bindIdx q rfl hq' ?_
     refine Tot.bindIdx q rfl hq' ?_
     refine hj _ ?_
     have e1:goneL (l.take (i+1))=goneL (l.take i):=by rw [hsn,goneL_snoc,hh,if_pos rfl]
     rw [e1]
     refine Prod.ext ?_ rfl
     have e2:=put_group (FO_nodup (l.take (i+1))) (fun a=>sel a (l.take i)) hq l[i].fPrefix
     simp only [Int.toNat_natCast,List.getElem_map]
     refine e2.trans ?_
     unfold GR
     refine List.map_congr_left fun a _ => ?_
     conv=>rhs;rw [hsn,sel_snoc,hh,Bool.true_and]
     rw [hk]
 ·unfold pack_Pack_L0
  refine Tot.iteF (decide_eq_false (by simp only;omega)) ?_
  refine Tot.last ?_
  rw [List.take_of_length_le (Nat.le_refl _)]
theorem pack_eq (h:Chs l):pack_Pack l=some (packF l,0):=by
 refine Tot.eq ?_
 unfold pack_Pack
 refine Tot.bindT (pack_first h) fun x hx => ?_
 subst hx
 have hlen:=h.len
 refine Tot.bindOf (filledW h.gR (Nat.le_trans (goneL_len l) (by omega))) ?_
 have hFl:=FO_len l
 have hGl:(GR l).length=(FO l).length:=by unfold GR;rw [List.length_map]
 have hcl:=chunks_len bW (goneL l)
 have hgl:=goneL_len l
 refine Tot.bindRng (FO l).length (fun i (_:Unit)=>((i:Int),(chunks bW (goneL l)).map uW++((FO l).take i).flatMap fun a=>(chunks (bA a.fNext) (sel a l)).map (uAa a))) (fun _ _=>True) (fun r=>r=packF l) () (by simp) trivial (fun i _ hi _ => ?_) (fun _ _ => ?_) (fun x hx=>Tot.some (by rw [hx]))
 ·unfold pack_Pack_L1
  refine Tot.iteT (decide_eq_true (by show(i:Int)<((GR l).length:Int);omega)) ?_
  refine Tot.bindIdx i rfl (show i<(GR l).length by omega) ?_
  show Tot ((pack_filled (GR l)[i] true).bind _) _
  rw [GR_get (by omega)]
  refine Tot.bindOf (filledD (h.foD (List.getElem_mem hi)) h.sR (Nat.le_trans (sel_len _ l) (by omega))) ?_
  have hsn:(FO l).take (i+1)=(FO l).take i++[(FO l)[i]]:=take_snoc hi
  have h1:=chunks_len (bA (FO l)[i].fNext) (sel (FO l)[i] l)
  have h2:=sel_len (FO l)[i] l
  have h3:(((FO l).take i).flatMap fun a=>(chunks (bA a.fNext) (sel a l)).map (uAa a)).length≤1000*((FO l).take i).length:=flat_len _ _ _ fun a _=>by
   have:=chunks_len (bA a.fNext) (sel a l)
   have:=sel_len a l
   rw [List.length_map];omega
  have h4:((FO l).take i).length≤1000:=by rw [List.length_take];omega
  refine Tot.chk (limB (by simp only [List.length_append,List.length_map];omega)) ?_
  refine Tot.step () ?_ trivial
  rw [hsn,List.flatMap_append]
  refine Prod.ext (cast_succ_w hi (by omega)) (by simp)
 ·unfold pack_Pack_L1
  refine Tot.iteF (decide_eq_false (by show ¬ (((FO l).length:Nat):Int)<((GR l).length:Int);omega)) ?_
  refine Tot.last ?_
  rw [List.take_of_length_le (Nat.le_refl _)];rfl
end
section
variable {l:List aChange}
end
theorem mod_eq (a m:Int) (hm:0<m) (hb:m≤4611686018427387904):exchangepointmill_Mod a m=some (a % m):=by
 obtain⟨h0,h1⟩:=emod_lt' a hm
 unfold exchangepointmill_Mod
 refine chk_of (by simp;omega) ?_
 unfold jn
 rcases tmod_emod a hm with h | ⟨h,hn⟩
 ·rw [h]
  exact ite_of_f (by simp;omega) rfl
 ·rw [h]
  refine ite_of_t (by simp;omega) ?_
  rw [show a % m-m+m=a % m from by omega,w64_id (by omega) (by omega)]
def DeckOk (d:exchangepointmill_Deck):Prop:=0≤d.fAt∧d.fAt≤d.fL.length∧d.fL.length≤9223372036854775807
theorem next_tot (d:exchangepointmill_Deck) (hd:DeckOk d) (n:Int) (hn:0<n) (hn':n≤4611686018427387904):Tot (exchangepointmill_Deck_Next d n) (fun x=>0≤x.1∧x.1<n∧DeckOk x.2):=by
 obtain⟨h0,h1,h2⟩:=hd
 unfold exchangepointmill_Deck_Next
 refine Tot.ite (fun h => ?_) (fun h => ?_)
 ·exact Tot.some ⟨Int.le_refl _,hn,h0,h1,h2⟩
 ·obtain⟨k,hk⟩:∃ k:Nat,d.fAt=k:=⟨d.fAt.toNat,by omega⟩
  have hlt:k<d.fL.length:=by simp at h;omega
  obtain⟨m0,m1⟩:=emod_lt' d.fL[k] hn
  rw [w64_id (n:=d.fAt+1) (by omega) (by omega),w64_id (n:=d.fAt+1-1) (by omega) (by omega)]
  refine Tot.bindIdx k (by omega) hlt (Tot.bindOf (mod_eq _ n hn hn') (Tot.some ⟨m0,m1,?_⟩))
  exact⟨by simp only;omega,by simp only;omega,h2⟩
theorem new_ok (l:List Int) (hl:l.length≤9223372036854775807):DeckOk ⟨l,0⟩:=⟨Int.le_refl _,by simp only;omega,hl⟩
def mP (k:Nat):aPrefix:=aPrefix.mk (aAddr.mk false 0 ((335544320+k*256:Nat):Int)) 24
def mX:aAddr:=aAddr.mk false 0 7
theorem mX_ok {m:Int} (h:0≤m∧m<2):dOk 101 mX m :=
 ⟨by omega,⟨⟨by decide,by decide⟩,.inr (by decide)⟩,by decide,by omega⟩
theorem mP_n (k:Nat):nA (mP k).fAddr=335544320+k*256:=by
 show(0:Int).toNat*18446744073709551616+(((335544320+k*256:Nat):Int)).toNat=_
 rw [Int.toNat_natCast];simp
theorem mP_V {k:Nat} (h:k≤60000):pV (mP k):=by
 refine⟨⟨⟨(by show(0:Int)≤0∧(0:Int)<18446744073709551616;decide),?_⟩,.inr ⟨rfl,?_⟩⟩,(by show(0:Int)≤24;decide),(by show(24:Int)≤((wid false:Nat):Int);decide),?_⟩
 ·show(0:Int)≤((335544320+k*256:Nat):Int)∧((335544320+k*256:Nat):Int)<18446744073709551616
  omega
 ·show((335544320+k*256:Nat):Int)<4294967296
  omega
 ·rw [mP_n]
  show cut (335544320+k*256) 8=_
  unfold cut
  omega
theorem mP_lt {k:Nat}:pLt (mP k) (mP (k+1)):=.inl (.inr ⟨rfl,by rw [mP_n,mP_n];omega⟩)
theorem mP_A {k:Nat} (h:k≤60000):bA mX [mP k]=true:=by
 refine bA_iff.2 ⟨by simp,?_,?_,(by show aa mX 0≤2048;decide),?_⟩
 ·intro p hp;rw [List.mem_singleton.1 hp];exact mP_V h
 ·intro p hp;rw [List.mem_singleton.1 hp];rfl
 ·have e1:clen true [mP k]=0:=by simp [clen,mP]
  have e2:clen false [mP k]=4:=by simp [clen,mP,pc]
  rw [e1,e2];decide
structure mOk (k:Nat) (c:aChange):Prop where
 p:c.fPrefix=mP k
 r:c.fHas=true→c.fRoute.fPrefix=mP k∧∃ m:Int,(0≤m∧m<2)∧c.fRoute.fAttrs=mkD 101 mX m
theorem mOk.gd {k:Nat} {c:aChange} (h:mOk k c) (hk:k≤60000):gd c:=by
 refine⟨by rw [h.p];exact mP_V hk,fun e=>by rw [h.p];exact(h.r e).1,fun e => ?_⟩
 obtain⟨_,m,hm,ha⟩:=h.r e
 exact⟨101,mX,m,mX_ok hm,ha,by rw [h.p];exact mP_A hk⟩
theorem mOk_chs {l:List aChange} (hl:l.length≤1000) (h:∀ (k:Nat) (hk:k<l.length),mOk k l[k]):Chs l:=by
 refine⟨fun c hc => ?_,fun i hi => ?_,hl⟩
 ·obtain⟨k,hk,rfl⟩:=List.getElem_of_mem hc
  exact(h k hk).gd (by omega)
 ·rw [(h i (by omega)).p,(h (i+1) hi).p]
  exact mP_lt
theorem mP_word {k:Nat} (h:k≤60000):bitI .or .u64 (335544320:Int) (shlI .u64 (IntKind.u64.wrap (k:Int)) (8:Int))=((335544320+k*256:Nat):Int):=by
 rw [u64_nat (by omega),show(8:Int)=((8:Nat):Int) from rfl,shl_nat k 8 (by omega),show(335544320:Int)=((335544320:Nat):Int) from rfl]
 have e:k*2 ^ 8 % 18446744073709551616=k*256:=by omega
 rw [e,or_nat (by omega) (by omega)]
 congr 1
 have:=Nat.two_pow_add_eq_or_of_lt (i:=24) (b:=k*256) (by omega) 20
 rw [show 2 ^ 24*20=335544320 from rfl] at this
 omega
theorem many_tot (d:exchangepointmill_Deck) (hd:DeckOk d) {n:Nat} (hn:n≤1000):Tot (xlaw30_many d (n:Int)) (fun r=>r.1.length=n∧∀ (k:Nat) (hk:k<r.1.length),mOk k r.1[k]):=by
 unfold xlaw30_many
 refine Tot.bindRng (β:=List aChange×exchangepointmill_Deck) n (fun i b=>((i:Int),b.1,b.2)) (fun i b=>(b.1.length=i∧∀ (k:Nat) (hk:k<b.1.length),mOk k b.1[k])∧DeckOk b.2) (fun p=>p.2.length=n∧∀ (k:Nat) (hk:k<p.2.length),mOk k p.2[k]) ([],d) rfl ⟨⟨rfl,fun k hk=>absurd hk (by simp)⟩,hd⟩ (fun i b hi hI => ?_) (fun b hI => ?_) (fun p hp=>Tot.some hp)
 ·obtain⟨bl,bd⟩:=b
  obtain⟨⟨h1,h2⟩,h3⟩:=hI
  simp only at h1 h2 h3
  unfold xlaw30_many_L0
  refine Tot.iteT (decide_eq_true (show(i:Int)<(n:Int) by omega)) ?_
  refine Tot.bindT (next_tot bd h3 3 (by omega) (by omega)) fun r hr => ?_
  have key:∀ {c:aChange},mOk i c→(bl++[c]).length=i+1∧∀ (k:Nat) (hk:k<(bl++[c]).length),mOk k (bl++[c])[k]:=fun {c} hc=>by
   refine⟨by simp [h1],fun k hk => ?_⟩
   rw [List.getElem_append]
   split
   ·rename_i hk'
    exact h2 k hk'
   ·rename_i hk'
    have:k=i:=by simp at hk;omega
    subst this
    simpa using hc
  have hw:=mP_word (k:=i) (by omega)
  refine Tot.jnR (fun m=>(m.1=true→m.2.1=((335544320+i*256:Nat):Int)∧m.2.2.1=24∧m.2.2.2.2.1=[aSegment.mk false [101]]∧m.2.2.2.2.2.1=7∧(0≤m.2.2.2.2.2.2.1∧m.2.2.2.2.2.2.1<2)∧m.2.2.2.2.2.2.2.1 = -1∧m.2.2.2.2.2.2.2.2.1 = -1∧m.2.2.2.2.2.2.2.2.2.1=[]∧m.2.2.2.2.2.2.2.2.2.2.1=[]∧m.2.2.2.2.2.2.2.2.2.2.2.1=[])∧DeckOk m.2.2.2.2.2.2.2.2.2.2.2.2) (fun j hj => ?_) (fun m hm => ?_)
  ·refine Tot.ite (fun e => ?_) (fun e => ?_)
   ·refine Tot.bindOf rempty_eq ?_
    refine Tot.bindT (next_tot r.2 hr.2.2 2 (by omega) (by omega)) fun r2 hr2 => ?_
    exact hj _ ⟨fun _=>⟨hw,rfl,rfl,rfl,⟨hr2.1,hr2.2.1⟩,rfl,rfl,rfl,rfl,rfl⟩,hr2.2.2⟩
   ·exact hj _ ⟨(fun e=>by cases e),hr.2.2⟩
  ·obtain⟨m1,m2,m3,m4,m5,m6,m7,m8,m9,m10,m11,m12,m13⟩:=m
   obtain⟨hm1,hm2⟩:=hm
   simp only at hm1 hm2
   refine Tot.chk (limB (by simp;omega)) ?_
   refine Tot.step (_,m13) (by rw [cast_succ_w hi (by omega)]) ⟨key ⟨?_,fun e => ?_⟩,hm2⟩
   ·simp only [hw];rfl
   ·obtain⟨e1,e2,e3,e4,e5,e6,e7,e8,e9,e10⟩:=hm1 e
    refine⟨?_,m7,e5,?_⟩
    ·simp only [e1,e2];rfl
    ·simp only [e3,e4,e6,e7,e8,e9,e10];rfl
 ·unfold xlaw30_many_L0
  refine Tot.iteF (decide_eq_false (show ¬ (n:Int)<(n:Int) by omega)) ?_
  exact Tot.last hI.1
theorem deck_tot (l:List Int) (hl:l.length≤9223372036854775807) (a:Int) {b m:Nat} (hm:0<m) (h:b+m≤1000) {α:Type} {P:α→Prop} {f:List aChange×exchangepointmill_Deck→Option α} (k:∀ r:List aChange×exchangepointmill_Deck,Chs r.1→Tot (f r) P) :
  Tot ((exchangepointmill_New l).bind fun r1=>(exchangepointmill_Mod a (m:Int)).bind fun r2=>(xlaw30_many r1 (w64 ((b:Int)+r2))).bind f) P:=by
 refine Tot.bindOf (show exchangepointmill_New l=some ⟨l,0⟩ from rfl) ?_
 refine Tot.bindOf (mod_eq a m (by omega) (by omega)) ?_
 have h1:=Int.emod_nonneg a (show(m:Int)≠0 by omega)
 have h2:=Int.emod_lt_of_pos a (show(0:Int)<(m:Int) by omega)
 have e:w64 ((b:Int)+a % (m:Int))=((b+(a % (m:Int)).toNat:Nat):Int):=by
  rw [w64_id (by omega) (by omega)];omega
 rw [e]
 refine Tot.bindT (many_tot _ (new_ok l hl) (by omega)) fun r hr=>k r (mOk_chs (by omega) hr.2)
-- comparing with itself
theorem ck_part {V:List aPrefix→Bool}:∀ (l cur:List aPrefix) (c:List aPrefix),c∈ck V cur l→c.length≤cur.length+l.length
 | [],cur,c,h=>by simp [ck] at h;subst h;simp
 | p :: l,cur,c,h=>by
  simp only [ck] at h
  split at h
  ·have:=ck_part l _ c h;simp at this ⊢;omega
  ·rcases List.mem_cons.1 h with rfl | h
   ·simp
   ·have:=ck_part l _ c h;simp at this ⊢;omega
theorem chunks_part {V:List aPrefix→Bool} {l c:List aPrefix} (h:c∈chunks V l):c.length≤l.length:=by
 cases l with
 | nil=>cases h
 | cons p l=>have:=ck_part l [p] c h;simp at this ⊢;omega
theorem packF_len {l:List aChange} (h:Chs l):(packF l).length≤2000000:=by
 have hlen:=h.len
 have hcl:=chunks_len bW (goneL l)
 have hgl:=goneL_len l
 have hfl:=FO_len l
 have h3:((FO l).flatMap fun a=>(chunks (bA a.fNext) (sel a l)).map (uAa a)).length≤1000*(FO l).length:=flat_len _ _ _ fun a _=>by
  have:=chunks_len (bA a.fNext) (sel a l)
  have:=sel_len a l
  rw [List.length_map];omega
 unfold packF
 rw [List.length_append,List.length_map]
 omega
theorem packF_ok {l:List aChange} (h:Chs l):∀ x∈packF l,(x.fAttrs=noD∨isD x.fAttrs)∧x.fWithdraw.length≤100000∧x.fAnnounce.length≤100000:=by
 have hlen:=h.len
 intro x hx
 unfold packF at hx
 rcases List.mem_append.1 hx with hx | hx
 ·obtain⟨c,hc,rfl⟩:=List.mem_map.1 hx
  have:=chunks_part hc
  have:=goneL_len l
  exact⟨.inl rfl,(by show c.length≤_;omega),by simp [uW]⟩
 ·obtain⟨a,ha,hx⟩:=List.mem_flatMap.1 hx
  obtain⟨c,hc,rfl⟩:=List.mem_map.1 hx
  have:=chunks_part hc
  have:=sel_len a l
  exact⟨.inr (h.foD ha),by simp [uAa],(by show c.length≤_;omega)⟩
-- the example
def zC (p:aPrefix):aChange:=aChange.mk 0 p false (aRoute.mk zP 0 (aAttrs.mk 0 [] zA 0 0 0 [] [] []))
def aP:aPrefix:=aPrefix.mk (aAddr.mk false 0 167772160) 8
def bP:aPrefix:=aPrefix.mk (aAddr.mk false 0 184549376) 8
theorem aP_V:pV aP:=⟨⟨⟨by decide,by decide⟩,.inr (by decide)⟩,by decide,by decide,by decide⟩
theorem bP_V:pV bP:=⟨⟨⟨by decide,by decide⟩,.inr (by decide)⟩,by decide,by decide,by decide⟩
theorem zC_gd {p:aPrefix} (h:pV p):gd (zC p):=⟨h,(fun e=>by cases e),(fun e=>by cases e)⟩
theorem awake_chs:Chs [zC aP,zC bP]:=by
 refine⟨fun c hc => ?_,fun i hi => ?_,by simp⟩
 ·simp only [List.mem_cons,List.not_mem_nil,or_false] at hc
  rcases hc with rfl | rfl
  ·exact zC_gd aP_V
  ·exact zC_gd bP_V
 ·have:i=0:=by simp at hi;omega
  subst this
  exact .inl (.inr ⟨rfl,(by show nA aP.fAddr<nA bP.fAddr;decide)⟩)
theorem awake_pack:packF [zC aP,zC bP]=[uW [aP,bP]]:=by
 have e1:goneL [zC aP,zC bP]=[aP,bP]:=rfl
 have e2:FO [zC aP,zC bP]=[]:=by simp [FO,foS,zC]
 have e3:bW [aP,bP]=true:=by
  refine bW_iff.2 ⟨by simp,fun p hp => ?_,by decide,by decide⟩
  simp only [List.mem_cons,List.not_mem_nil,or_false] at hp
  rcases hp with rfl | rfl
  ·exact aP_V
  ·exact bP_V
 unfold packF
 rw [e1,e2]
 simp [chunks,ck,e3]
theorem awake_unpack:pack_Unpack [uW [aP,bP]] 7=some [{ zC aP with fTo:=7 },{ zC bP with fTo:=7 }]:=by
 have f0:aspath_First []=some (0,false):=by unfold aspath_First;simp [jn]
 unfold pack_Unpack
 rw [loop_unfold]
 simp only [pack_Unpack_L0,uW,noD,List.length_cons,List.length_nil,f0]
 simp [idx]
 rw [loop_unfold]
 simp [pack_Unpack_L1,idx,chk,LIM,w64_id]
 rw [loop_unfold]
 simp [pack_Unpack_L1,idx,chk,LIM,w64_id]
 rw [loop_unfold]
 simp [pack_Unpack_L1,f0]
 rw [loop_unfold]
 simp [pack_Unpack_L2]
 rw [loop_unfold]
 simp [pack_Unpack_L0,zC,zP,zA]
theorem awake_eq:xlaw30_awake=some true:=by
 unfold xlaw30_awake
 have hp:pack_Pack [zC aP,zC bP]=some ([uW [aP,bP]],0):=by rw [pack_eq awake_chs,awake_pack]
 refine bind_of hp ?_
 refine bind_of awake_unpack ?_
 simp [jn,idx,zC,bP]
end Go.Proofs.YtkhjkjojjdkidaaGreatDoor

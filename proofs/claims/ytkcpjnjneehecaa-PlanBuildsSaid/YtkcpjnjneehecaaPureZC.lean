/- Failures, plans, decks, the example. -/
import Derived.Test.YtkcpjnjneehecaaPureZB
namespace Go.Proofs.Ytkcpjnjneehecaa
open Go Go.Vc
def it0:aItem:=⟨false,0⟩
def itF (f:aFabric):List aItem:=((List.range f.fLinks.length).map fun i:Nat=>(⟨false,(i:Int)⟩:aItem))++(List.range f.fSwitches.toNat).map fun i:Nat=>(⟨true,(i:Int)⟩:aItem)
def prK (all:List aItem) (i:Nat):Nat→List (List aItem)
 | 0=>[]
 | k+1=>if i<k then prK all i k++[[all.getD i it0,all.getD k it0]] else prK all i k
def prs (all:List aItem):Nat→List (List aItem)
 | 0=>[]
 | i+1=>prs all i++prK all i all.length
def failF (f:aFabric):List (List aItem):=((itF f).map fun x=>[x])++prs (itF f) (itF f).length
theorem prK_le (all:List aItem) (i:Nat):∀ k,(prK all i k).length≤k
 | 0=>Nat.le_refl _
 | k+1=>by have:=prK_le all i k;unfold prK;split<;>(try rw [List.length_append];simp only [List.length_singleton])<;>omega
theorem prs_le (all:List aItem):∀ i,(prs all i).length≤i*all.length
 | 0=>Nat.zero_le _
 | i+1=>by
  have h1:=prs_le all i
  have h2:=prK_le all i all.length
  unfold prs
  rw [List.length_append,Nat.add_mul,Nat.one_mul];omega
theorem prK_low (all:List aItem) (i:Nat):∀ k,k≤i+1→prK all i k=[]
 | 0,_=>rfl
 | k+1,h=>by unfold prK;rw [if_neg (by omega)];exact prK_low all i k (by omega)
theorem gD {all:List aItem} {i:Nat} (h:i<all.length):all.getD i it0=all[i]:=by rw [List.getD_eq_getElem?_getD,List.getElem?_eq_getElem h];rfl
theorem itF_len {f:aFabric}:(itF f).length=f.fLinks.length+f.fSwitches.toNat:=by simp [itF]
section
variable {f:aFabric} (hf:FV f)
include hf
theorem cf_L0:Tot (loop (plan_Failures_L0 f) ((0:Int),([]:List aItem))) (fun x=>x=(List.range f.fLinks.length).map fun i:Nat=>(⟨false,(i:Int)⟩:aItem)):=by
 have hl:=hf.l
 refine Tot.rng f.fLinks.length (fun k (b:List aItem)=>(((k:Nat):Int),b)) (fun k b=>b=(List.range k).map fun i:Nat=>(⟨false,(i:Int)⟩:aItem)) _ [] rfl rfl (fun k b hk hb => ?_) (fun b hb => ?_)
 ·subst hb
  unfold plan_Failures_L0
  exact Tot.iteT (decide_eq_true (by simp only;omega)) (Tot.chk (limB (by simp;omega)) (Tot.step _ (by rw [wN (by omega)]) (by rw [List.range_succ,List.map_append];rfl)))
 ·subst hb
  unfold plan_Failures_L0
  exact Tot.iteF (decide_eq_false (by simp only;omega)) (Tot.last rfl)
theorem rf_L0:Tot (loop (xref43_Failures_L0 f) ((0:Int),([]:List aItem))) (fun x=>x=(List.range f.fLinks.length).map fun i:Nat=>(⟨false,(i:Int)⟩:aItem)):=by
 have hl:=hf.l
 refine Tot.rng f.fLinks.length (fun k (b:List aItem)=>(((k:Nat):Int),b)) (fun k b=>b=(List.range k).map fun i:Nat=>(⟨false,(i:Int)⟩:aItem)) _ [] rfl rfl (fun k b hk hb => ?_) (fun b hb => ?_)
 ·subst hb
  unfold xref43_Failures_L0
  exact Tot.iteT (decide_eq_true (by simp only;omega)) (Tot.chk (limB (by simp;omega)) (Tot.step _ (by rw [wN (by omega)]) (by rw [List.range_succ,List.map_append];rfl)))
 ·subst hb
  unfold xref43_Failures_L0
  exact Tot.iteF (decide_eq_false (by simp only;omega)) (Tot.last rfl)
theorem cf_L1:Tot (loop (plan_Failures_L1 f) ((0:Int),(List.range f.fLinks.length).map fun i:Nat=>(⟨false,(i:Int)⟩:aItem))) (fun x=>x=itF f):=by
 have hl:=hf.l
 have hs:=hf.s
 refine Tot.rng f.fSwitches.toNat (fun k (b:List aItem)=>(((k:Nat):Int),b)) (fun k b=>b=((List.range f.fLinks.length).map fun i:Nat=>(⟨false,(i:Int)⟩:aItem))++(List.range k).map fun i:Nat=>(⟨true,(i:Int)⟩:aItem)) _ _ rfl (by simp) (fun k b hk hb => ?_) (fun b hb => ?_)
 ·subst hb
  unfold plan_Failures_L1
  exact Tot.iteT (decide_eq_true (by simp only;omega)) (Tot.chk (limB (by simp;omega)) (Tot.step _ (by rw [wN (by omega)]) (by rw [List.range_succ,List.map_append,← List.append_assoc];rfl)))
 ·subst hb
  unfold plan_Failures_L1
  exact Tot.iteF (decide_eq_false (by simp only;omega)) (Tot.last rfl)
theorem rf_L1:Tot (loop (xref43_Failures_L1 f) ((0:Int),(List.range f.fLinks.length).map fun i:Nat=>(⟨false,(i:Int)⟩:aItem))) (fun x=>x=itF f):=by
 have hl:=hf.l
 have hs:=hf.s
 refine Tot.rng f.fSwitches.toNat (fun k (b:List aItem)=>(((k:Nat):Int),b)) (fun k b=>b=((List.range f.fLinks.length).map fun i:Nat=>(⟨false,(i:Int)⟩:aItem))++(List.range k).map fun i:Nat=>(⟨true,(i:Int)⟩:aItem)) _ _ rfl (by simp) (fun k b hk hb => ?_) (fun b hb => ?_)
 ·subst hb
  unfold xref43_Failures_L1
  exact Tot.iteT (decide_eq_true (by simp only;omega)) (Tot.chk (limB (by simp;omega)) (Tot.step _ (by rw [wN (by omega)]) (by rw [List.range_succ,List.map_append,← List.append_assoc];rfl)))
 ·subst hb
  unfold xref43_Failures_L1
  exact Tot.iteF (decide_eq_false (by simp only;omega)) (Tot.last rfl)
end
section
variable (all:List aItem) (ha:all.length≤100)
include ha
theorem cf_L2:Tot (loop (plan_Failures_L2 all) ((0:Int),([]:List (List aItem)))) (fun x=>x=all.map fun x=>[x]):=by
 refine Tot.rng all.length (fun k (b:List (List aItem))=>(((k:Nat):Int),b)) (fun k b=>b=(all.take k).map fun x=>[x]) _ [] rfl rfl (fun k b hk hb => ?_) (fun b hb => ?_)
 ·subst hb
  unfold plan_Failures_L2
  exact Tot.iteT (decide_eq_true (by simp only;omega)) (Tot.bindIdx k rfl hk (Tot.bindIdx k rfl hk (Tot.chk (limB (by simp;omega)) (Tot.step _ (by rw [wN (by omega)]) (by rw [take_snoc hk,List.map_append];rfl)))))
 ·subst hb
  unfold plan_Failures_L2
  exact Tot.iteF (decide_eq_false (by simp only;omega)) (Tot.last (by rw [List.take_length]))
theorem rf_L2:Tot (loop (xref43_Failures_L2 all) ((0:Int),([]:List (List aItem)))) (fun x=>x=all.map fun x=>[x]):=by
 refine Tot.rng all.length (fun k (b:List (List aItem))=>(((k:Nat):Int),b)) (fun k b=>b=(all.take k).map fun x=>[x]) _ [] rfl rfl (fun k b hk hb => ?_) (fun b hb => ?_)
 ·subst hb
  unfold xref43_Failures_L2
  exact Tot.iteT (decide_eq_true (by simp only;omega)) (Tot.bindIdx k rfl hk (Tot.bindIdx k rfl hk (Tot.chk (limB (by simp;omega)) (Tot.step _ (by rw [wN (by omega)]) (by rw [take_snoc hk,List.map_append];rfl)))))
 ·subst hb
  unfold xref43_Failures_L2
  exact Tot.iteF (decide_eq_false (by simp only;omega)) (Tot.last (by rw [List.take_length]))
theorem cf_L4 {i:Nat} (hi:i<all.length) (X:List (List aItem)) (hX:X.length≤100000) (Y:List (List aItem)):Tot (loop (plan_Failures_L4 all ((i:Int),Y)) ((0:Int),X)) (fun x=>x=X++prK all i all.length):=by
 refine Tot.rng all.length (fun k (b:List (List aItem))=>(((k:Nat):Int),b)) (fun k b=>b=X++prK all i k) _ X rfl (by simp [prK]) (fun k b hk hb => ?_) (fun b hb => ?_)
 ·subst hb
  have:=prK_le all i k
  unfold plan_Failures_L4
  refine Tot.iteT (decide_eq_true (by simp only;omega)) (Tot.jnR (fun m:List (List aItem)=>m=X++prK all i (k+1)) (fun j hj=>Tot.ite (fun h=>Tot.bindIdx i rfl hi (Tot.bindIdx i rfl hi (Tot.bindIdx k rfl hk (Tot.bindIdx k rfl hk (Tot.chk (limB (by simp;omega)) (hj _ ?_)))))) (fun h=>hj _ ?_)) (fun m hm=>Tot.step m (by rw [wN (by omega)]) hm))
  ·have h:=of_decide_eq_true h
   rw [prK,if_pos (by simp only at h;omega),gD hi,gD hk,List.append_assoc]
  ·have h:=of_decide_eq_false h
   rw [prK,if_neg (by simp only at h;omega)]
 ·subst hb
  unfold plan_Failures_L4
  exact Tot.iteF (decide_eq_false (by simp only;omega)) (Tot.last rfl)
theorem rf_L4 {i:Nat} (hi:i<all.length) (X:List (List aItem)) (hX:X.length≤100000) (Y:List (List aItem)):Tot (loop (xref43_Failures_L4 all ((i:Int),Y) all[i]) ((0:Int),X)) (fun x=>x=X++prK all i all.length):=by
 have ew:(w64 ((i:Int)+1)).toNat=i+1:=by rw [wN (by omega)];rfl
 have ew':(w64 ((((i:Int),Y):Int×List (List aItem)).1+1)).toNat=i+1:=ew
 refine Tot.rng (all.length-(i+1)) (fun k (b:List (List aItem))=>(((k:Nat):Int),b)) (fun k b=>b=X++prK all i (i+1+k)) _ X rfl (by rw [prK_low all i _ (Nat.le_refl _)];simp) (fun k b hk hb => ?_) (fun b hb => ?_)
 ·subst hb
  have:=prK_le all i (i+1+k)
  have hk':i+1+k<all.length:=by omega
  unfold xref43_Failures_L4
  rw [ew']
  have hkd:k<((all.drop (i+1)).take (all.length-(i+1))).length:=by simp;omega
  refine Tot.iteT (decide_eq_true (by simp only;omega)) (Tot.bindIdx k rfl hkd (Tot.bindIdx k rfl hkd (Tot.chk (limB (by simp;omega)) (Tot.step _ (by rw [wN (by omega)]) ?_))))
  have:((all.drop (i+1)).take (all.length-(i+1)))[k]=all[i+1+k]:=by simp
  rw [this]
  show _=X++prK all i ((i+1+k)+1)
  rw [prK,if_pos (by omega),gD hi,gD hk',List.append_assoc]
 ·subst hb
  unfold xref43_Failures_L4
  rw [ew']
  exact Tot.iteF (decide_eq_false (by simp only;omega)) (Tot.last (by rw [show i+1+(all.length-(i+1))=all.length from by omega]))
theorem cf_L3 (X:List (List aItem)) (hX:X.length≤100):Tot (loop (plan_Failures_L3 all) ((0:Int),X)) (fun x=>x=X++prs all all.length):=by
 refine Tot.rng all.length (fun k (b:List (List aItem))=>(((k:Nat):Int),b)) (fun k b=>b=X++prs all k) _ X rfl (by simp [prs]) (fun k b hk hb => ?_) (fun b hb => ?_)
 ·subst hb
  have h1:=prs_le all k
  have h2:k*all.length≤100*100:=Nat.mul_le_mul (by omega) ha
  unfold plan_Failures_L3
  refine Tot.iteT (decide_eq_true (by simp only;omega)) (Tot.bindT (cf_L4 all ha hk (X++prs all k) (by rw [List.length_append];omega) _) fun x hx=>Tot.step x (by rw [wN (by omega)]) ?_)
  rw [hx,prs,List.append_assoc]
 ·subst hb
  unfold plan_Failures_L3
  exact Tot.iteF (decide_eq_false (by simp only;omega)) (Tot.last rfl)
theorem rf_L3 (X:List (List aItem)) (hX:X.length≤100):Tot (loop (xref43_Failures_L3 all) ((0:Int),X)) (fun x=>x=X++prs all all.length):=by
 refine Tot.rng all.length (fun k (b:List (List aItem))=>(((k:Nat):Int),b)) (fun k b=>b=X++prs all k) _ X rfl (by simp [prs]) (fun k b hk hb => ?_) (fun b hb => ?_)
 ·subst hb
  have h1:=prs_le all k
  have h2:k*all.length≤100*100:=Nat.mul_le_mul (by omega) ha
  unfold xref43_Failures_L3
  refine Tot.iteT (decide_eq_true (by simp only;omega)) (Tot.bindIdx k rfl hk (Tot.bindIdx k rfl hk (Tot.chk ?_ (Tot.bindT (rf_L4 all ha hk (X++prs all k) (by rw [List.length_append];omega) _) fun x hx=>Tot.step x (by rw [wN (by omega)]) ?_))))
  ·show(decide (0≤w64 ((k:Int)+1))&&decide ((w64 ((k:Int)+1)).toNat≤all.length)&&decide (all.length≤all.length))=true
   rw [wN (by omega)];simp;omega
  ·rw [hx,prs,List.append_assoc]
 ·subst hb
  unfold xref43_Failures_L3
  exact Tot.iteF (decide_eq_false (by simp only;omega)) (Tot.last rfl)
end
open Classical in
noncomputable def flF (f:aFabric):List (List aItem):=if FV f∧f.fLinks.length+f.fSwitches≤12 then failF f else []
theorem failures_eq {f:aFabric} (hl:f.fLinks.length≤1000000):plan_Failures f=some (flF f):=by
 refine Tot.eq ?_
 unfold plan_Failures
 refine Tot.bindT (fvalid_tot hl) fun b hb=>Tot.ite (fun h=>Tot.some ?_) (fun h => ?_)
 ·unfold flF
  rw [if_neg]
  rintro⟨g1,g2⟩
  have:=g1.s
  rw [hb.2 g1,w64_id (by omega) (by omega)] at h
  simp at h;omega
 ·have hv:FV f:=hb.1 (by cases b with | true=>rfl | false=>simp at h)
  have hs:=hv.s
  have h12:f.fLinks.length+f.fSwitches≤12:=by
   rw [w64_id (by omega) (by omega)] at h
   simp at h;omega
  have hal:(itF f).length≤100:=by rw [itF_len];omega
  refine Tot.bindT (cf_L0 hv) fun x hx => ?_
  subst hx
  refine Tot.bindT (cf_L1 hv) fun x hx => ?_
  subst hx
  refine Tot.bindT (cf_L2 _ hal) fun x hx => ?_
  subst hx
  refine Tot.bindT (cf_L3 _ hal _ (by simp;exact hal)) fun x hx => ?_
  subst hx
  refine Tot.some ?_
  unfold flF;rw [if_pos ⟨hv,h12⟩];rfl
theorem rfailures_eq {f:aFabric} (hl:f.fLinks.length≤1000000):xref43_Failures f=some (flF f):=by
 refine Tot.eq ?_
 unfold xref43_Failures
 refine Tot.bindT (rvalid_tot hl) fun b hb=>Tot.ite (fun h=>Tot.some ?_) (fun h => ?_)
 ·unfold flF
  rw [if_neg]
  rintro⟨g1,g2⟩
  have:=g1.s
  rw [hb.2 g1,w64_id (by omega) (by omega)] at h
  simp at h;omega
 ·have hv:FV f:=hb.1 (by cases b with | true=>rfl | false=>simp at h)
  have hs:=hv.s
  have h12:f.fLinks.length+f.fSwitches≤12:=by
   rw [w64_id (by omega) (by omega)] at h
   simp at h;omega
  have hal:(itF f).length≤100:=by rw [itF_len];omega
  refine Tot.bindT (rf_L0 hv) fun x hx => ?_
  subst hx
  refine Tot.bindT (rf_L1 hv) fun x hx => ?_
  subst hx
  refine Tot.bindT (rf_L2 _ hal) fun x hx => ?_
  subst hx
  refine Tot.bindT (rf_L3 _ hal _ (by simp;exact hal)) fun x hx => ?_
  subst hx
  refine Tot.some ?_
  unfold flF;rw [if_pos ⟨hv,h12⟩];rfl
theorem failF_len {f:aFabric} (h:f.fLinks.length+f.fSwitches≤12) (hs:1≤f.fSwitches):(failF f).length≤1000:=by
 have h1:=prs_le (itF f) (itF f).length
 have h2:(itF f).length≤12:=by rw [itF_len];omega
 have h3:(itF f).length*(itF f).length≤12*12:=Nat.mul_le_mul h2 h2
 unfold failF
 rw [List.length_append,List.length_map];omega
theorem flF_len (f:aFabric):(flF f).length≤1000:=by
 unfold flF
 split
 ·rename_i h;exact failF_len h.2 h.1.s.1
 ·simp
theorem itF_ok {f:aFabric} (hs:1≤f.fSwitches) {x:aItem} (h:x∈itF f):ItV f x:=by
 unfold itF at h
 rcases List.mem_append.1 h with h | h
 ·obtain⟨i,hi,rfl⟩:=List.mem_map.1 h
  have:=List.mem_range.1 hi
  exact⟨by simp only;omega,(fun e=>by cases e),fun _=>by simp only;omega⟩
 ·obtain⟨i,hi,rfl⟩:=List.mem_map.1 h
  have:=List.mem_range.1 hi
  exact⟨by simp only;omega,fun _=>by simp only;omega,(fun e=>by cases e)⟩
theorem itF_nd (f:aFabric):(itF f).Nodup:=by
 unfold itF
 refine List.pairwise_append.2 ⟨?_,?_,fun a ha b hb => ?_⟩
 ·refine List.pairwise_map.2 (List.nodup_range.imp fun {a b} h e=>h ?_)
  have:=congrArg aItem.fIndex e;simp only at this;omega
 ·refine List.pairwise_map.2 (List.nodup_range.imp fun {a b} h e=>h ?_)
  have:=congrArg aItem.fIndex e;simp only at this;omega
 ·obtain⟨i,_,rfl⟩:=List.mem_map.1 ha
  obtain⟨j,_,rfl⟩:=List.mem_map.1 hb
  intro e;have:=congrArg aItem.fSwitch e;cases this
theorem prK_mem (all:List aItem) (i:Nat):∀ k,k≤all.length→∀ x∈prK all i k,∃ a b,a∈all∧b∈all∧(all.Nodup→a≠b)∧x=[a,b]
 | 0,_,x,hx=>nomatch hx
 | k+1,hk,x,hx=>by
  unfold prK at hx
  split at hx
  ·rename_i h
   rcases List.mem_append.1 hx with hx | hx
   ·exact prK_mem all i k (by omega) x hx
   ·refine⟨_,_,?_,?_,fun hn => ?_,List.mem_singleton.1 hx⟩
    ·rw [gD (by omega:i<all.length)];exact List.getElem_mem _
    ·rw [gD (by omega:k<all.length)];exact List.getElem_mem _
    ·rw [gD (by omega:i<all.length),gD (by omega:k<all.length)]
     exact List.pairwise_iff_getElem.1 hn i k (by omega) (by omega) h
  ·exact prK_mem all i k (by omega) x hx
theorem prs_mem (all:List aItem):∀ i,∀ x∈prs all i,∃ a b,a∈all∧b∈all∧(all.Nodup→a≠b)∧x=[a,b]
 | 0,x,hx=>nomatch hx
 | i+1,x,hx=>by
  unfold prs at hx
  rcases List.mem_append.1 hx with hx | hx
  ·exact prs_mem all i x hx
  ·exact prK_mem all i _ (Nat.le_refl _) x hx
theorem flF_valid {f:aFabric} {loads:List aLoad} (h:Vd f loads []) {x:List aItem} (hx:x∈flF f):Vd f loads x:=by
 unfold flF at hx
 split at hx
 ·unfold failF at hx
  have hs:=h.fv.s.1
  rcases List.mem_append.1 hx with hx | hx
  ·obtain⟨a,ha,rfl⟩:=List.mem_map.1 hx
   refine⟨h.fv,h.ll,by simp,h.l,fun k hk y hy => ?_⟩
   have:k=0:=by simp at hk;exact hk
   subst this
   cases hy
   exact⟨itF_ok hs ha,by simp⟩
  ·obtain⟨a,b,ha,hb,hne,rfl⟩:=prs_mem _ _ x hx
   have hne:=hne (itF_nd f)
   refine⟨h.fv,h.ll,by simp,h.l,fun k hk y hy => ?_⟩
   have:k=0∨k=1:=by simp at hk;omega
   rcases this with rfl | rfl
   ·cases hy;exact⟨itF_ok hs ha,by simp⟩
   ·cases hy;exact⟨itF_ok hs hb,by simp;exact fun e=>hne e.symm⟩
 ·exact nomatch hx
theorem okLoop {n:Nat} {tb:Int→Option ((Unit⊕Unit)⊕Int)} (hn:n≤4000000000)
  (h:∀ k,k<n→Tot (tb (k:Int)) (fun y=>y = .inr (w64 ((k:Int)+1)))) (he:tb (n:Int)=some (.inl (.inr ()))) :
  Tot (loop tb (0:Int)) (fun x=>x = .inr ()) :=
 (allLoop (fun _=>True) hn (fun k hk=>(h k hk).mono fun y hy => .inr ⟨hy,trivial⟩) he).mono fun x hx=>hx.elim (fun h=>h.1) (fun h=>absurd (fun _ _=>trivial) h.2)
theorem ints_self (l:List Int) (hl:l.length≤1000000):xref23_SameInts l l=some true:=by
 refine Tot.eq ?_
 unfold xref23_SameInts
 refine Tot.iteF (by simp) (Tot.bindT (okLoop (by omega:l.length≤_) (fun k hk => ?_) ?_) fun x hx=>by subst hx;exact Tot.some rfl)
 ·unfold xref23_SameInts_L0
  exact Tot.iteT (decide_eq_true (by omega)) (Tot.bindIdx k rfl hk (Tot.bindIdx k rfl hk (Tot.iteF (by simp) (Tot.some rfl))))
 ·unfold xref23_SameInts_L0;rw [if_neg (by simp)]
theorem items_self (l:List aItem) (hl:l.length≤1000000):xref42_SameItems l l=some true:=by
 refine Tot.eq ?_
 unfold xref42_SameItems
 refine Tot.iteF (by simp) (Tot.bindT (okLoop (by omega:l.length≤_) (fun k hk => ?_) ?_) fun x hx=>by subst hx;exact Tot.some rfl)
 ·unfold xref42_SameItems_L0
  exact Tot.iteT (decide_eq_true (by omega)) (Tot.bindIdx k rfl hk (Tot.bindIdx k rfl hk (Tot.iteF (by simp) (Tot.some rfl))))
 ·unfold xref42_SameItems_L0;rw [if_neg (by simp)]
def ShOk (l:List aShed):Prop:=l.length≤1000000∧∀ x∈l,x.fItems.length≤1000000∧x.fLoads.length≤1000000
theorem same_self {l:List aShed} (h:ShOk l):xref43_Same l l=some true:=by
 refine Tot.eq ?_
 have hl:=h.1
 unfold xref43_Same
 refine Tot.iteF (by simp) (Tot.bindT (okLoop (by omega:l.length≤_) (fun k hk => ?_) ?_) fun x hx=>by subst hx;exact Tot.some rfl)
 ·have hx:=h.2 _ (List.getElem_mem hk)
  unfold xref43_Same_L0
  exact Tot.iteT (decide_eq_true (by omega)) (Tot.jnR (fun m:Bool=>m=false) (fun j hj=>Tot.bindIdx k rfl hk (Tot.bindIdx k rfl hk (Tot.bindOf (items_self _ hx.1) (Tot.iteF rfl (Tot.bindIdx k rfl hk (Tot.bindIdx k rfl hk (Tot.bindOf (ints_self _ hx.2) (hj _ rfl)))))))) (fun m hm=>Tot.iteF hm (Tot.some rfl)))
 ·unfold xref43_Same_L0;rw [if_neg (by simp)]
theorem flF_item_len {f:aFabric} {x:List aItem} (hx:x∈flF f):x.length≤2:=by
 unfold flF at hx
 split at hx
 ·unfold failF at hx
  rcases List.mem_append.1 hx with hx | hx
  ·obtain⟨a,ha,rfl⟩:=List.mem_map.1 hx;simp
  ·obtain⟨a,b,_,_,_,rfl⟩:=prs_mem _ _ x hx;simp
 ·exact nomatch hx
noncomputable def bdF (f:aFabric) (loads:List aLoad) (o:List Int):List aShed:=(flF f).map fun x=>⟨x,shF f loads o x⟩
theorem bdF_ok (f:aFabric) {loads:List aLoad} (hl:loads.length≤16) (o:List Int):ShOk (bdF f loads o):=by
 refine⟨by unfold bdF;rw [List.length_map];have:=flF_len f;omega,fun x hx => ?_⟩
 obtain⟨y,hy,rfl⟩:=List.mem_map.1 hx
 refine⟨by have:=flF_item_len hy;simp only;omega,?_⟩
 have:=lsK_le (goF (woF f y) loads o (gone0 (woF f y) loads)) loads.length
 show(lsK _ _).length≤_
 omega
theorem build_ex {f:aFabric} {loads:List aLoad} {o:List Int} (h1:f.fLinks.length≤1000000) (h2:loads.length≤1000000) (h3:o.length≤1000000) :
  ∃ r,plan_Build f loads o=some r∧xref43_Build f loads o=some r∧((¬ (Vd f loads []∧Ord' o loads.length)∧r=([],1))∨((Vd f loads []∧Ord' o loads.length)∧12<f.fLinks.length+f.fSwitches∧r=([],3))∨((Vd f loads []∧Ord' o loads.length)∧f.fLinks.length+f.fSwitches≤12∧r=(bdF f loads o,0))):=by
 by_cases hv:Vd f loads []∧Ord' o loads.length
 ·have hvv:=hv
  obtain⟨hv,ho⟩:=hv
  have hs:=hv.fv.s
  have hfl:=hv.fv.l
  have ew:w64 ((f.fLinks.length:Int)+f.fSwitches)=(f.fLinks.length:Int)+f.fSwitches:=w64_id (by omega) (by omega)
  by_cases h12:12<f.fLinks.length+f.fSwitches
  ·refine⟨([],3),Tot.eq ?_,Tot.eq ?_,.inr (.inl ⟨hvv,h12,rfl⟩)⟩
   ·unfold plan_Build
    exact Tot.jnR (fun m:Bool=>m=false) (fun j hj=>Tot.bindT (valid_tot h1 h2 (by simp)) fun b hb=>Tot.iteF (by rw [hb.2 hv];rfl) (Tot.bindT (permitted_tot loads o h3 h2) fun b hb=>hj _ (by rw [hb.2 ho];rfl))) (fun m hm=>Tot.iteF hm (Tot.iteT (by rw [ew];exact decide_eq_true h12) (Tot.some rfl)))
   ·unfold xref43_Build
    exact Tot.jnR (fun m:Bool=>m=false) (fun j hj=>Tot.bindT (rvalid42_tot h1 h2 (by simp)) fun b hb=>Tot.iteF (by rw [hb.2 hv];rfl) (Tot.bindT (ordered_tot o loads.length h3 h2) fun b hb=>hj _ (by rw [hb.2 ho];rfl))) (fun m hm=>Tot.iteF hm (Tot.iteT (by rw [ew];exact decide_eq_true h12) (Tot.some rfl)))
  ·have hlen:=flF_len f
   have key:∀ x∈flF f,plan_Shed f loads o x=some (shF f loads o x,0)∧xref43_Shed f loads o x=some (shF f loads o x,0):=fun x hx=>by
    obtain⟨r,e1,e2,h⟩:=shed_ex (f:=f) (loads:=loads) (o:=o) (items:=x) h1 h2 h3 (by have:=flF_item_len hx;omega)
    rcases h with ⟨h,_⟩ | ⟨_,rfl⟩
    ·exact absurd ⟨flF_valid hv hx,ho⟩ h
    ·exact⟨e1,e2⟩
   refine⟨(bdF f loads o,0),Tot.eq ?_,Tot.eq ?_,.inr (.inr ⟨hvv,by omega,rfl⟩)⟩
   ·unfold plan_Build
    refine Tot.jnR (fun m:Bool=>m=false) (fun j hj=>Tot.bindT (valid_tot h1 h2 (by simp)) fun b hb=>Tot.iteF (by rw [hb.2 hv];rfl) (Tot.bindT (permitted_tot loads o h3 h2) fun b hb=>hj _ (by rw [hb.2 ho];rfl))) (fun m hm=>Tot.iteF hm (Tot.iteF (by rw [ew];exact decide_eq_false h12) (Tot.bindOf (failures_eq h1) ?_)))
    refine Tot.bindRng (flF f).length (fun k (b:List aShed)=>(((k:Nat):Int),b)) (fun k b=>b=((flF f).take k).map fun x=>⟨x,shF f loads o x⟩) (fun x=>x = .inr (bdF f loads o)) [] rfl rfl (fun k b hk hb => ?_) (fun b hb => ?_) (fun x hx=>by subst hx;exact Tot.some rfl)
    ·subst hb
     unfold plan_Build_L0
     refine Tot.iteT (decide_eq_true (by simp only;omega)) (Tot.bindIdx k rfl hk (Tot.bindOf (key _ (List.getElem_mem hk)).1 (Tot.iteF rfl (Tot.chk (limB (by simp;omega)) (Tot.step _ (by rw [wN (by omega)]) ?_)))))
     rw [take_snoc hk,List.map_append];rfl
    ·subst hb
     unfold plan_Build_L0
     exact Tot.iteF (decide_eq_false (by simp only;omega)) (Tot.last (by rw [List.take_length];rfl))
   ·unfold xref43_Build
    refine Tot.jnR (fun m:Bool=>m=false) (fun j hj=>Tot.bindT (rvalid42_tot h1 h2 (by simp)) fun b hb=>Tot.iteF (by rw [hb.2 hv];rfl) (Tot.bindT (ordered_tot o loads.length h3 h2) fun b hb=>hj _ (by rw [hb.2 ho];rfl))) (fun m hm=>Tot.iteF hm (Tot.iteF (by rw [ew];exact decide_eq_false h12) (Tot.bindOf (rfailures_eq h1) ?_)))
    refine Tot.bindRng (flF f).length (fun k (b:List aShed)=>(((k:Nat):Int),b)) (fun k b=>b=((flF f).take k).map fun x=>⟨x,shF f loads o x⟩) (fun x=>x=bdF f loads o) [] rfl rfl (fun k b hk hb => ?_) (fun b hb => ?_) (fun x hx=>by subst hx;exact Tot.some rfl)
    ·subst hb
     unfold xref43_Build_L0
     refine Tot.iteT (decide_eq_true (by simp only;omega)) (Tot.bindIdx k rfl hk (Tot.bindOf (key _ (List.getElem_mem hk)).2 (Tot.chk (limB (by simp;omega)) (Tot.step _ (by rw [wN (by omega)]) ?_))))
     rw [take_snoc hk,List.map_append];rfl
    ·subst hb
     unfold xref43_Build_L0
     exact Tot.iteF (decide_eq_false (by simp only;omega)) (Tot.last (by rw [List.take_length];rfl))
 ·refine⟨([],1),Tot.eq ?_,Tot.eq ?_,.inl ⟨hv,rfl⟩⟩
  ·unfold plan_Build
   refine Tot.jnR (fun m:Bool=>m=true) (fun j hj=>Tot.bindT (valid_tot h1 h2 (by simp)) fun b hb=>Tot.ite (fun _=>hj _ rfl) (fun h=>Tot.bindT (permitted_tot loads o h3 h2) fun c hc=>hj _ ?_)) (fun m hm=>Tot.iteT hm (Tot.some rfl))
   cases c with
   | false=>rfl
   | true=>exact absurd ⟨hb.1 (by simpa using h),hc.1 rfl⟩ hv
  ·unfold xref43_Build
   refine Tot.jnR (fun m:Bool=>m=true) (fun j hj=>Tot.bindT (rvalid42_tot h1 h2 (by simp)) fun b hb=>Tot.ite (fun _=>hj _ rfl) (fun h=>Tot.bindT (ordered_tot o loads.length h3 h2) fun c hc=>hj _ ?_)) (fun m hm=>Tot.iteT hm (Tot.some rfl))
   cases c with
   | false=>rfl
   | true=>exact absurd ⟨hb.1 (by simpa using h),hc.1 rfl⟩ hv
-- decks
theorem nx (d:exchangepointmill_Deck) (hd:DeckOk d) (n:Nat) (hn:0<n) (hn':n≤1000000):Tot (exchangepointmill_Deck_Next d n) (fun x=>(∃ k:Nat,x.1=k∧k<n)∧DeckOk x.2) :=
 (next_tot d hd n (by omega) (by omega)).mono fun x hx=>⟨⟨x.1.toNat,by omega,by omega⟩,hx.2.2⟩
theorem lv_mod {S A B C:Nat} (hS:2≤S) (hA:A<S) (hB:B<S-1) (hC:C<3):LV S ⟨A,(((A+1+B) % S:Nat):Int),((1+C:Nat):Int)⟩:=by
 have hm:((A+1+B) % S=A+1+B∧A+1+B<S)∨((A+1+B) % S=A+1+B-S∧S≤A+1+B):=by
  by_cases h:A+1+B<S
  ·exact .inl ⟨Nat.mod_eq_of_lt h,h⟩
  ·refine .inr ⟨?_,by omega⟩
   rw [Nat.mod_eq_sub_mod (by omega),Nat.mod_eq_of_lt (by omega)]
 generalize (A+1+B) % S=M at hm ⊢
 refine⟨⟨by simp only;omega,by simp only;omega⟩,⟨by simp only;omega,by simp only;omega⟩,by simp only;omega,⟨by simp only;omega,by simp only;omega⟩⟩
theorem fab_L0 {S:Nat} (hS:1≤S∧S≤5) (r1:Int×exchangepointmill_Deck) (hr:w64 ((1:Int)+r1.1)=S) {n:Nat} (hn:n≤7) (d:exchangepointmill_Deck) (hd:DeckOk d) :
  Tot (loop (exchangepointmill_Deck_Fabric_L0 r1) ((n:Int),([]:List Bool),([]:List aLink),d)) (fun x=>x.1.length=x.2.1.length∧x.2.1.length≤7∧(∀ l∈x.2.1,LV S l)∧DeckOk x.2.2):=by
 refine Tot.loop (fun s:Int×List Bool×List aLink×exchangepointmill_Deck=>∃ k:Nat,s.1=(k:Int)∧k+s.2.2.1.length≤7∧s.2.1.length=s.2.2.1.length∧(∀ l∈s.2.2.1,LV S l)∧DeckOk s.2.2.2) (fun s=>s.1.toNat) _ (fun s hs => ?_) ⟨n,rfl,by simp;omega,rfl,(fun l hl=>nomatch hl),hd⟩
 obtain⟨k,e,h1,h2,h3,h4⟩:=hs
 unfold exchangepointmill_Deck_Fabric_L0
 rw [hr]
 refine Tot.ite (fun h => ?_) (fun h=>Tot.out ⟨h2,by simp only;omega,h3,h4⟩)
 have hc:0<s.1∧1<(S:Int):=by simpa using h
 have e1:w64 ((S:Int)-1)=((S-1:Nat):Int):=by rw [w64_id (by omega) (by omega)];omega
 rw [e1]
 refine Tot.bindT (nx _ h4 S (by omega) (by omega)) fun a ha=>Tot.bindT (nx _ ha.2 (S-1) (by omega) (by omega)) fun b hb=>Tot.chk (decide_eq_true (by omega)) (Tot.bindT (nx _ hb.2 3 (by decide) (by decide)) fun c hc'=>Tot.chk (limB (by simp;omega)) (Tot.bindT (nx _ hc'.2 12 (by decide) (by decide)) fun g hg=>Tot.chk (limB (by simp;omega)) (Tot.next ⟨k-1,?_,?_,?_,fun l hl => ?_,hg.2⟩ ?_)))
 ·simp only;rw [e,w64_id (by omega) (by omega)];omega
 ·simp;omega
 ·simp;exact h2
 ·simp only at hl
  rcases List.mem_append.1 hl with hl | hl
  ·exact h3 l hl
  ·obtain⟨A,eA,hA⟩:=ha.1
   obtain⟨B,eB,hB⟩:=hb.1
   obtain⟨C,eC,hC⟩:=hc'.1
   rw [List.mem_singleton.1 hl,eA,eB,eC]
   have:=lv_mod (by omega:2≤S) hA hB hC
   have t1:w64 ((A:Int)+1)=((A+1:Nat):Int):=wN (by omega)
   have t2:w64 (((A+1:Nat):Int)+(B:Int))=((A+1+B:Nat):Int):=by rw [w64_id (by omega) (by omega)];rfl
   have t3:w64 ((1:Int)+(C:Int))=((1+C:Nat):Int):=by rw [w64_id (by omega) (by omega)];rfl
   rw [t1,t2,t3,Int.tmod_eq_emod_of_nonneg (by omega)]
   exact this
 ·simp only;rw [e,w64_id (by omega) (by omega)];omega
theorem fabric_tot (d:exchangepointmill_Deck) (hd:DeckOk d):Tot (exchangepointmill_Deck_Fabric d) (fun x=>FV x.1∧x.1.fSwitches≤5∧x.1.fLinks.length≤7∧DeckOk x.2):=by
 unfold exchangepointmill_Deck_Fabric
 refine Tot.bindT (nx _ hd 5 (by decide) (by decide)) fun r1 h1 => ?_
 obtain⟨⟨k,ek,hk⟩,hd1⟩:=h1
 have e:w64 ((1:Int)+r1.1)=((1+k:Nat):Int):=by rw [ek,w64_id (by omega) (by omega)];rfl
 rw [e]
 refine Tot.chk (mk_ok (by omega) (by omega)) (Tot.bindT (nx _ hd1 8 (by decide) (by decide)) fun r3 h3 => ?_)
 obtain⟨⟨n,en,hn⟩,hd3⟩:=h3
 rw [en]
 refine Tot.bindT (fab_L0 (S:=1+k) ⟨by omega,by omega⟩ r1 e (by omega) _ hd3) fun p hp=>Tot.bindT (nx _ hp.2.2.2 10 (by decide) (by decide)) fun r hr=>Tot.jnR (fun m:exchangepointmill_Deck×List Bool=>m.2.length=1+k∧DeckOk m.1) (fun j hj=>Tot.ite (fun h=>Tot.bindT (nx _ hr.2 (1+k) (by omega) (by omega)) fun q hq => ?_) (fun h=>hj _ ⟨by simp;omega,hr.2⟩)) (fun m hm=>Tot.some ⟨⟨?_,?_,?_,?_,?_⟩,?_,?_,hm.2⟩)
 ·obtain⟨i,ei,hi⟩:=hq.1
  have hb:i<(List.replicate (((1+k:Nat):Int)).toNat false).length:=by simp;omega
  exact Tot.bindIdx i ei hb (Tot.bindIdx i ei hb (hj _ ⟨by simp;omega,hq.2⟩))
 ·exact⟨by simp only;omega,by simp only;omega⟩
 ·have:=hp.2.1;simp only;omega
 ·exact hp.1
 ·simp only;rw [hm.1]
 ·exact hp.2.2.1
 ·simp only;omega
 ·exact hp.2.1
theorem loads_tot (d:exchangepointmill_Deck) (hd:DeckOk d) {f:aFabric} (hf:FV f):Tot (exchangepointmill_Deck_Loads d f) (fun x=>x.1.length≤6∧(∀ l∈x.1,LdV f l)∧DeckOk x.2):=by
 obtain⟨S,eS⟩:∃ S:Nat,f.fSwitches=S:=⟨f.fSwitches.toNat,by have:=hf.s;omega⟩
 have hs:=hf.s
 unfold exchangepointmill_Deck_Loads
 refine Tot.bindT (nx _ hd 7 (by decide) (by decide)) fun r1 h1 => ?_
 obtain⟨⟨n,en,hn⟩,hd1⟩:=h1
 refine Tot.bindLoop (fun s:Int×List aLoad×exchangepointmill_Deck=>∃ k:Nat,s.1=(k:Int)∧k+s.2.1.length≤6∧(∀ l∈s.2.1,LdV f l)∧DeckOk s.2.2) (fun s=>s.1.toNat) (fun x=>x.2.length≤6∧(∀ l∈x.2,LdV f l)∧DeckOk x.1) ⟨n,en,by simp;omega,(fun l hl=>nomatch hl),hd1⟩ (fun s hs => ?_) (fun x hx=>Tot.some hx)
 obtain⟨k,e,h1,h3,h4⟩:=hs
 unfold exchangepointmill_Deck_Loads_L0
 refine Tot.ite (fun h => ?_) (fun h=>Tot.out ⟨by simp only;omega,h3,h4⟩)
 have h:=of_decide_eq_true h
 rw [eS]
 refine Tot.bindT (nx _ h4 S (by omega) (by omega)) fun a ha=>Tot.bindT (nx _ ha.2 S (by omega) (by omega)) fun b hb=>Tot.bindT (nx _ hb.2 2500 (by decide) (by decide)) fun c hc=>Tot.chk (limB (by simp;omega)) (Tot.next ⟨k-1,?_,?_,fun l hl => ?_,hc.2⟩ ?_)
 ·simp only;rw [e,w64_id (by omega) (by omega)];omega
 ·simp;omega
 ·simp only at hl
  rcases List.mem_append.1 hl with hl | hl
  ·exact h3 l hl
  ·obtain⟨A,eA,hA⟩:=ha.1
   obtain⟨B,eB,hB⟩:=hb.1
   obtain⟨C,eC,hC⟩:=hc.1
   rw [List.mem_singleton.1 hl]
   exact⟨⟨by simp only;omega,by simp only;omega⟩,⟨by simp only;omega,by simp only;omega⟩,⟨by simp only;omega,by simp only;omega⟩⟩
 ·simp only;rw [e,w64_id (by omega) (by omega)];omega
theorem order_tot (d:exchangepointmill_Deck) (hd:DeckOk d) {n:Nat} (hn:n≤100):Tot (exchangepointmill_Deck_Order d (n:Int)) (fun x=>Ord' x.1 n∧DeckOk x.2):=by
 unfold exchangepointmill_Deck_Order
 refine Tot.bindRng n (fun k (b:List Int×exchangepointmill_Deck)=>(((k:Nat):Int),b.1,b.2)) (fun k b=>Ord' b.1 k∧DeckOk b.2) (fun x=>Ord' x.2 n∧DeckOk x.1) ([],d) rfl ⟨⟨(fun x hx=>nomatch hx),List.nodup_nil,rfl⟩,hd⟩ (fun k b hk hb => ?_) (fun b hb => ?_) (fun x hx=>Tot.some hx)
 ·obtain⟨ho,hd⟩:=hb
  have hl:=ho.l
  unfold exchangepointmill_Deck_Order_L0
  rw [hl]
  have e:w64 ((k:Int)+1)=((k+1:Nat):Int):=wN (by omega)
  refine Tot.iteT (decide_eq_true (by simp only;omega)) ?_
  simp only
  rw [e]
  refine Tot.bindT (nx _ hd (k+1) (by omega) (by omega)) fun r hr => ?_
  obtain⟨⟨i,ei,hi⟩,hd'⟩:=hr
  rw [ei,Int.toNat_natCast]
  refine Tot.chk (by simp;omega) (Tot.chk (decide_eq_true (by omega)) (Tot.chk (limB (by simp;omega)) (Tot.chk (by simp;omega) (Tot.chk (limB (by simp;omega)) (Tot.chk (limB (by simp;omega)) (Tot.step (_,_) rfl ⟨?_,hd'⟩))))))
  have et:(b.1.drop i).take (k-i)=b.1.drop i:=List.take_of_length_le (by simp;omega)
  show Ord' (b.1.take i++[(k:Int)]++(b.1.drop i).take (k-i)) (k+1)
  rw [et]
  have hp:(b.1.take i++[(k:Int)]++b.1.drop i).Perm ((k:Int) :: b.1):=by
   have h1:(b.1.take i++[(k:Int)]++b.1.drop i).Perm ([(k:Int)]++b.1.take i++b.1.drop i):=List.Perm.append_right _ List.perm_append_comm
   rw [List.append_assoc,List.append_assoc,List.take_append_drop] at h1
   rw [List.append_assoc]
   exact h1
  refine⟨fun x hx => ?_,hp.nodup_iff.2 (List.nodup_cons.2 ⟨fun g => ?_,ho.nd⟩),by rw [hp.length_eq,List.length_cons,hl]⟩
  ·rcases List.mem_cons.1 (hp.mem_iff.1 hx) with hx | hx
   ·omega
   ·have:=ho.r x hx;omega
  ·have:=ho.r _ g;omega
 ·unfold exchangepointmill_Deck_Order_L0
  exact Tot.iteF (decide_eq_false (by simp only;omega)) (Tot.last hb)
structure Scene (x:aFabric×List aLoad×List Int×exchangepointmill_Deck):Prop where
 f:FV x.1
 n:x.1.fLinks.length+x.1.fSwitches≤9
 ll:x.2.1.length≤6
 l:∀ l∈x.2.1,LdV x.1 l
 o:Ord' x.2.2.1 x.2.1.length
 d:DeckOk x.2.2.2
theorem scene_tot (d:exchangepointmill_Deck) (hd:DeckOk d):Tot (xlaw43_scene d) Scene:=by
 unfold xlaw43_scene
 refine Tot.bindT (fabric_tot d hd) fun r1 h1 => ?_
 obtain⟨hf,h5,h7,hd1⟩:=h1
 have hs:=hf.s
 have hdn:=hf.dn
 refine Tot.jnR (fun m:aFabric=>FV m∧m.fLinks.length+m.fSwitches≤9) (fun j hj=>Tot.ite (fun h => ?_) (fun h=>hj _ ⟨hf,?_⟩)) (fun m hm=>Tot.bindT (loads_tot _ hd1 hm.1) fun r hr=>Tot.bindT (order_tot _ hr.2.2 (by omega)) fun q hq=>Tot.some ⟨hm.1,hm.2,hr.1,hr.2.1,hq.1,hq.2⟩)
 ·rw [w64_id (by omega) (by omega)] at h
  have h:=of_decide_eq_true h
  obtain⟨n,en⟩:∃ n:Nat,(9:Int)-r1.1.fSwitches=n:=⟨(9-r1.1.fSwitches).toNat,by omega⟩
  have e:w64 ((9:Int)-r1.1.fSwitches)=(n:Int):=by rw [w64_id (by omega) (by omega)];exact en
  rw [e,Int.toNat_natCast]
  refine Tot.chk (by simp;omega) (Tot.chk (by simp;omega) (hj _ ⟨⟨hf.s,?_,?_,hf.dd,fun x hx => ?_⟩,?_⟩))
  ·simp;omega
  ·simp;omega
  ·exact hf.lk x (by simp only [List.drop_zero] at hx;exact List.mem_of_mem_take hx)
  ·simp;omega
 ·rw [w64_id (by omega) (by omega)] at h
  have h:=of_decide_eq_false h
  omega
theorem Scene.vd {x:aFabric×List aLoad×List Int×exchangepointmill_Deck} (h:Scene x):Vd x.1 x.2.1 [] :=
 ⟨h.f,by have:=h.ll;omega,by simp,fun k hk l e=>h.l l (List.mem_of_getElem? e),fun k hk=>absurd hk (Nat.not_lt_zero _)⟩
theorem way_val {f:aFabric} (hf:FV f) {a b:Int} (ha:0≤a∧a<f.fSwitches) (hbl:al f b=true) {D:List Int} (hD:Dst f b D) (h n:Nat) (hn:gt D a=n):forward_Way f a b (h:Int)=some (wayF f D h n a,true):=by
 refine Tot.eq ?_
 obtain⟨D',hr,hD'⟩:=reach_tot hf hbl
 have e:=hD'.uniq hf hD
 subst e
 unfold forward_Way fabric_Distances
 refine Tot.bindOf (by rw [hr];rfl) (Tot.jnR (fun m:Bool=>m=false) (fun j hj=>Tot.iteF (by rw [hD.len];simp;omega) (bindGt (by rw [hD.len];exact ha) (hj _ (decide_eq_false (by omega))))) (fun m hm=>Tot.iteF hm (Tot.bindT (way_L0 hf hD ha hn h) fun x hx=>by rw [hx];exact Tot.some rfl)))
theorem way_none {f:aFabric} (hf:FV f) {a b:Int} (ha:0≤a∧a<f.fSwitches) (hbl:al f b=true) {D:List Int} (hD:Dst f b D) (h:Nat) (hn:gt D a<0):forward_Way f a b (h:Int)=some ([],false):=by
 refine Tot.eq ?_
 obtain⟨D',hr,hD'⟩:=reach_tot hf hbl
 have e:=hD'.uniq hf hD
 subst e
 unfold forward_Way fabric_Distances
 exact Tot.bindOf (by rw [hr];rfl) (Tot.jnR (fun m:Bool=>m=true) (fun j hj=>Tot.iteF (by rw [hD.len];simp;omega) (bindGt (by rw [hD.len];exact ha) (hj _ (decide_eq_true (by omega))))) (fun m hm=>Tot.iteT hm (Tot.some rfl)))
def exF:aFabric:=⟨2,[⟨0,1,1⟩],[false],[false,false]⟩
def exG:aFabric:=⟨2,[⟨0,1,1⟩],[true],[false,false]⟩
def exL:List aLoad:=[⟨0,1,600⟩,⟨0,1,500⟩]
theorem exF_ok:FV exF:=⟨by decide,by decide,rfl,rfl,fun x hx=>by
 rw [List.mem_singleton.1 hx];exact⟨by decide,by decide,by decide,by decide⟩⟩
theorem exG_ok:FV exG:=⟨by decide,by decide,rfl,rfl,fun x hx=>by
 rw [List.mem_singleton.1 hx];exact⟨by decide,by decide,by decide,by decide⟩⟩
theorem exF_ed {a b:Int} (h:Ed exF a b):(a=0∧b=1)∨(a=1∧b=0):=by
 obtain⟨i,l,h1,h2,h3⟩:=h
 match i,h1 with
 | 0,h1=>cases h1;simp only at h3;omega
theorem exG_ed {a b:Int} (h:Ed exG a b):False:=by
 obtain⟨i,l,h1,h2,h3⟩:=h
 match i,h1 with
 | 0,h1=>exact absurd h2 (by decide)
theorem two {a:Int} (h0:0≤a) (h1:a<2):a=0∨a=1:=by omega
theorem exF_d:Dst exF 1 [1,0]:=by
 refine⟨rfl,fun a h0 h1 => ?_,rfl,fun a h0 h1 e => ?_,fun a b h h0 => ?_,fun a h0 h1 hp => ?_⟩
 ·rcases two h0 h1 with rfl | rfl<;>decide
 ·rcases two h0 h1 with rfl | rfl
  ·exact absurd e (by decide)
  ·rfl
 ·rcases exF_ed h with ⟨rfl,rfl⟩ | ⟨rfl,rfl⟩<;>decide
 ·rcases two h0 h1 with rfl | rfl
  ·exact⟨1,⟨0,_,rfl,by decide,.inl ⟨rfl,rfl⟩⟩,by decide⟩
  ·exact absurd hp (by decide)
theorem exG_d:Dst exG 1 [-1,0]:=by
 refine⟨rfl,fun a h0 h1 => ?_,rfl,fun a h0 h1 e => ?_,fun a b h h0=>(exG_ed h).elim,fun a h0 h1 hp => ?_⟩
 ·rcases two h0 h1 with rfl | rfl<;>decide
 ·rcases two h0 h1 with rfl | rfl
  ·exact absurd e (by decide)
  ·rfl
 ·rcases two h0 h1 with rfl | rfl
  ·exact absurd hp (by decide)
  ·exact absurd hp (by decide)
theorem exF_wy (i:Nat) (hi:i<2):wy exF exL i=([0],true):=by
 have:=way_val exF_ok (a:=0) (by decide) (b:=1) (by decide) exF_d
 match i,hi with
 | 0,_ =>
  show(forward_Way exF 0 1 ((0:Nat):Int)).getD ([],false)=_
  rw [this 0 1 rfl];decide
 | 1,_ =>
  show(forward_Way exF 0 1 ((1:Nat):Int)).getD ([],false)=_
  rw [this 1 1 rfl];decide
theorem exG_wy (i:Nat) (hi:i<2):wy exG exL i=([],false):=by
 have:=way_none exG_ok (a:=0) (by decide) (b:=1) (by decide) exG_d
 match i,hi with
 | 0,_ =>
  show(forward_Way exG 0 1 ((0:Nat):Int)).getD ([],false)=_
  rw [this 0 (by decide)];rfl
 | 1,_ =>
  show(forward_Way exG 0 1 ((1:Nat):Int)).getD ([],false)=_
  rw [this 1 (by decide)];rfl
theorem exF_gone:gone0 exF exL=[false,false]:=by
 show [!(wy exF exL 0).2,!(wy exF exL 1).2]=_
 rw [exF_wy 0 (by decide),exF_wy 1 (by decide)];rfl
theorem exG_gone:gone0 exG exL=[true,true]:=by
 show [!(wy exG exL 0).2,!(wy exG exL 1).2]=_
 rw [exG_wy 0 (by decide),exG_wy 1 (by decide)];rfl
theorem exF_sm (gone:List Bool):sm exF exL gone 0 2=(if gone.getD 0 false=true then 0 else 600)+(if gone.getD 1 false=true then 0 else 500):=by
 show(0+(if gone.getD 0 false=true then 0 else ct (wy exF exL 0).1 (rt exL 0) 0 (wy exF exL 0).1.length))+(if gone.getD 1 false=true then 0 else ct (wy exF exL 1).1 (rt exL 1) 0 (wy exF exL 1).1.length)=_
 rw [exF_wy 0 (by decide),exF_wy 1 (by decide),Int.zero_add];rfl
theorem exF_ov1:ovF exF exL [false,false]=true:=by
 unfold ovF
 refine decide_eq_true fun h => ?_
 have:=h 0 (by decide) _ rfl
 rw [show exL.length=2 from rfl,show((0:Nat):Int)=0 from rfl,exF_sm] at this
 exact this (by decide)
theorem exF_ov2:ovF exF exL [false,true]=false:=by
 unfold ovF
 refine decide_eq_false fun h=>h fun k hk l hl => ?_
 have:k=0:=by have:exF.fLinks.length=1:=rfl;omega
 subst this
 cases hl
 rw [show exL.length=2 from rfl,show((0:Nat):Int)=0 from rfl,exF_sm]
 decide
theorem exG_ov (gone:List Bool) (h0:gone=[true,true]):ovF exG exL gone=false:=by
 subst h0
 unfold ovF
 refine decide_eq_false fun h=>h fun k hk l hl => ?_
 have:k=0:=by have:exG.fLinks.length=1:=rfl;omega
 subst this
 cases hl
 decide
theorem ex_sh1:shF exF exL [1,0] []=[1]:=by
 show lsK (goF exF exL [1,0] (gone0 exF exL)) 2=_
 rw [exF_gone,goF,if_pos exF_ov1]
 show lsK (goF exF exL [0] [false,true]) 2=_
 rw [goF,if_neg (by rw [exF_ov2];simp)]
 decide
theorem ex_sh2:shF exF exL [1,0] [⟨false,0⟩]=[0,1]:=by
 show lsK (goF exG exL [1,0] (gone0 exG exL)) 2=_
 rw [exG_gone,goF,if_neg (by rw [exG_ov _ rfl];simp)]
 decide
theorem ex_vd (items:List aItem) (h:items=[]∨items=[⟨false,0⟩]):Vd exF exL items:=by
 refine⟨exF_ok,by decide,by rcases h with rfl | rfl<;>decide,fun k hk l e => ?_,fun k hk x e => ?_⟩
 ·have hk':k=0∨k=1:=by have:exL.length=2:=rfl;omega
  rcases hk' with rfl | rfl<;>cases e<;>exact⟨by decide,by decide,by decide⟩
 ·rcases h with rfl | rfl
  ·exact absurd hk (Nat.not_lt_zero _)
  ·have:k=0:=by simp at hk;exact hk
   subst this
   cases e
   exact⟨⟨by decide,(fun e=>by cases e),fun _=>by decide⟩,by simp⟩
theorem ex_ord:Ord' [1,0] exL.length:=⟨fun x hx=>by simp at hx;have:exL.length=2:=rfl;omega,by decide,rfl⟩
theorem awake_eq:xlaw43_awake=some true:=by
 refine Tot.eq ?_
 obtain⟨r,e1,_,h1⟩:=shed_ex (f:=exF) (loads:=exL) (o:=[1,0]) (items:=[]) (by decide) (by decide) (by decide) (by decide)
 obtain⟨s,e2,_,h2⟩:=shed_ex (f:=exF) (loads:=exL) (o:=[1,0]) (items:=[⟨false,0⟩]) (by decide) (by decide) (by decide) (by decide)
 have h1:r=([1],0):=by
  rcases h1 with ⟨h,_⟩ | ⟨_,h⟩
  ·exact absurd ⟨ex_vd _ (.inl rfl),ex_ord⟩ h
  ·rw [h,ex_sh1]
 have h2:s=([0,1],0):=by
  rcases h2 with ⟨h,_⟩ | ⟨_,h⟩
  ·exact absurd ⟨ex_vd _ (.inr rfl),ex_ord⟩ h
  ·rw [h,ex_sh2]
 subst h1
 subst h2
 unfold xlaw43_awake
 refine Tot.chk rfl (Tot.bindOf e1 (Tot.bindOf e2 (Tot.jnR (fun m:Bool=>m=true) (fun j hj=>Tot.iteT rfl (Tot.bindIdx 0 rfl (by decide) (Tot.iteT rfl (Tot.bindOf (failures_eq (f:=exF) (by decide)) (hj _ ?_))))) (fun m hm=>Tot.some hm))))
 unfold flF
 rw [if_pos ⟨exF_ok,by decide⟩]
 decide
end Go.Proofs.Ytkcpjnjneehecaa

/- Objects in order, payloads; whom the document trusts; why signed origins are not good; the law; in plain Lean. -/
import Derived.Test.YtgfoabcickjphaaGreatDoorPureD
import Derived.Test.YtgfoabcickjphaaGreatDoorVcX
namespace Go.Proofs.YtgfoabcickjphaaGreatDoor
open Go Go.Vc
section
variable {α:Type} [DecidableEq α]
def dd (l:List α):List α:=l.foldl (fun acc x=>if acc.getLast? = some x then acc else acc++[x]) []
theorem dd_snoc (l:List α) (x:α):dd (l++[x])=if (dd l).getLast? = some x then dd l else dd l++[x]:=by
 unfold dd
 rw [List.foldl_append]
 rfl
theorem dd_last:∀ l:List α,(dd l).getLast? = l.getLast? :=by
 refine snoc_ind ?_ ?_
 ·rfl
 ·intro l x ih
  rw [dd_snoc,List.getLast?_concat]
  by_cases h:(dd l).getLast? = some x
  ·rw [if_pos h];exact h
  ·rw [if_neg h,List.getLast?_concat]
theorem dd_mem:∀ (l:List α) (x:α),x∈dd l↔x∈l:=by
 refine snoc_ind (Q:=fun l=>∀ x,x∈dd l↔x∈l) ?_ ?_
 ·intro x;exact Iff.rfl
 ·intro l y ih x
  rw [dd_snoc,List.mem_append,List.mem_singleton]
  by_cases h:(dd l).getLast? = some y
  ·rw [if_pos h,ih]
   refine⟨.inl,fun e=>e.elim id fun e => ?_⟩
   rw [e,← ih]
   exact List.mem_of_getLast? h
  ·rw [if_neg h,List.mem_append,List.mem_singleton,ih]
theorem dd_len:∀ l:List α,(dd l).length≤l.length:=by
 refine snoc_ind ?_ ?_
 ·exact Nat.le_refl _
 ·intro l y ih
  rw [dd_snoc,List.length_append,List.length_singleton]
  split
  ·omega
  ·rw [List.length_append,List.length_singleton];omega
theorem dd_nodup {r:α→α→Prop} (ht:∀ x y z,r x y→r y z→r x z) (ha:∀ x y,r x y→r y x→x=y):∀ l:List α,l.Pairwise r→(dd l).Nodup:=by
 refine snoc_ind (Q:=fun l=>l.Pairwise r→(dd l).Nodup) ?_ ?_
 ·intro _;exact List.nodup_nil
 ·intro l y ih hp
  obtain⟨p1,_,p3⟩:=List.pairwise_append.1 hp
  have hn:=ih p1
  rw [dd_snoc]
  by_cases h:(dd l).getLast? = some y
  ·rw [if_pos h];exact hn
  ·rw [if_neg h]
   refine List.nodup_append.2 ⟨hn,by simp,fun a ha1 b hb e => ?_⟩
   rw [List.mem_singleton] at hb
   subst hb
   subst e
   -- it stands in l, so the last one is it
   have hm:=(dd_mem l a).1 ha1
   rcases List.eq_nil_or_concat l with e | ⟨l',z,e⟩
   ·subst e;cases hm
   ·rw [List.concat_eq_append] at e
    subst e
    rw [dd_last,List.getLast?_concat] at h
    have hz:r z a:=p3 z (by simp) a (by simp)
    rcases List.mem_append.1 hm with g | g
    ·have:r a z:=(List.pairwise_append.1 p1).2.2 a g z (by simp)
     exact h (by rw [ha z a hz this])
    ·rw [List.mem_singleton] at g
     exact h (by rw [g])
end
instance:DecidableEq aAddr:=fun a b=>decidable_of_iff (aeq a b=true) aeq_iff
instance:DecidableEq aPrefix:=fun a b=>decidable_of_iff (peq a b=true) peq_iff
def oeq (a b:aObject):Bool:=((((a.fPrefix.fAddr.fV6==b.fPrefix.fAddr.fV6)&&((a.fPrefix.fAddr.fHi==b.fPrefix.fAddr.fHi)&&((a.fPrefix.fAddr.fLo==b.fPrefix.fAddr.fLo)&&true)))&&((a.fPrefix.fLen==b.fPrefix.fLen)&&true))&&((a.fMax==b.fMax)&&((a.fASN==b.fASN)&&true)))
theorem oeq_iff {a b:aObject}:oeq a b=true↔a=b:=by
 have e:oeq a b=(peq a.fPrefix b.fPrefix&&((a.fMax==b.fMax)&&((a.fASN==b.fASN)&&true))):=rfl
 rw [e]
 simp only [Bool.and_true,Bool.and_eq_true,beq_iff_eq,peq_iff]
 constructor
 ·rintro⟨h1,h2,h3⟩
  obtain⟨p,m,n⟩:=a
  obtain⟨p',m',n'⟩:=b
  simp only at h1 h2 h3
  rw [h1,h2,h3]
 ·rintro rfl
  exact⟨rfl,rfl,rfl⟩
instance:DecidableEq aObject:=fun a b=>decidable_of_iff (oeq a b=true) oeq_iff
theorem cp_L1 {l:List aObject} {k:Nat} (hk:1≤k) (hkl:k<l.length) (hl:l.length≤1000000) (h0:dd (l.take (k+1))=l.take k) :
  Tot (loop (slices_Compact_L1 l (k:Int)) ((k:Int),(1:Int),l)) (fun p=>∃ i:Nat,p.1=i∧i≤l.length∧p.2.length=l.length∧p.2.take i=dd l):=by
 refine Tot.rng (l.length-k-1) (fun m (b:Nat×List aObject)=>((b.1:Int),((m+1:Nat):Int),b.2)) (fun m b=>b.2.length=l.length∧b.1≤k+m∧b.2.take b.1=dd (l.take (k+m+1))∧∀ j,k+m≤j→b.2[j]? = l[j]?) _ (k,l) rfl ⟨rfl,Nat.le_refl _,h0.symm,fun _ _=>rfl⟩ (fun m b hm hb => ?_) (fun b hb => ?_)
 ·obtain⟨b1,b2,b3,b4⟩:=hb
  have hw:w64 (((m+1:Nat):Int)+1)=((m+1+1:Nat):Int):=by rw [w64_id (by omega) (by omega)];rfl
  have hw2:w64 (((m+1:Nat):Int)-1)=(m:Int):=by rw [w64_id (by omega) (by omega)];omega
  have hdl:((b.2.drop k).take (l.length-k)).length=l.length-k:=by rw [List.length_take,List.length_drop];omega
  have hj1:k+m+1<l.length:=by omega
  have hj0:k+m<l.length:=by omega
  have g1:((b.2.drop k).take (l.length-k))[m+1]? = some l[k+m+1]:=by
   rw [List.getElem?_take_of_lt (by omega),List.getElem?_drop,show k+(m+1)=k+m+1 from rfl,b4 _ (by omega),List.getElem?_eq_getElem hj1]
  have g0:((b.2.drop k).take (l.length-k))[m]? = some l[k+m]:=by
   rw [List.getElem?_take_of_lt (by omega),List.getElem?_drop,b4 _ (by omega),List.getElem?_eq_getElem hj0]
  have i1:idx ((b.2.drop k).take (l.length-k)) ((m+1:Nat):Int)=some l[k+m+1]:=idx_get g1
  have i0:idx ((b.2.drop k).take (l.length-k)) (m:Int)=some l[k+m]:=idx_get g0
  have hlast:(dd (l.take (k+m+1))).getLast? = some l[k+m]:=by
   rw [dd_last,take_snoc hj0,List.getLast?_concat]
  have htk:l.take (k+(m+1)+1)=l.take (k+m+1)++[l[k+m+1]]:=take_snoc hj1
  unfold slices_Compact_L1
  simp only [Int.toNat_natCast]
  rw [hw,hw2]
  refine Tot.iteT (decide_eq_true (by omega)) (Tot.bindOf i1 (Tot.bindOf i1 (Tot.bindOf i0 (Tot.bindOf i0 ?_))))
  refine Tot.jnR (fun q:Int×List aObject=>∃ i:Nat,q.1=i∧q.2.length=l.length∧i≤k+(m+1)∧q.2.take i=dd (l.take (k+(m+1)+1))∧∀ j,k+(m+1)≤j→q.2[j]? = l[j]?) (fun j hj => ?_) ?_
  ·rw [htk,dd_snoc,hlast] at hj
   refine Tot.ite (fun h => ?_) (fun h=>hj _ ⟨b.1,rfl,b1,by omega,?_,fun j hj=>b4 j (by omega)⟩)
   ·have hne:¬ l[k+m]=l[k+m+1]:=fun e=>by
     have:oeq l[k+m+1] l[k+m]=true:=oeq_iff.2 e.symm
     have h:(!oeq l[k+m+1] l[k+m])=true:=h
     rw [this] at h;cases h
    have hb:b.1<b.2.length:=by omega
    have hw3:w64 ((b.1:Int)+1)=((b.1+1:Nat):Int):=by rw [w64_id (by omega) (by omega)];rfl
    refine Tot.bindOf i1 (Tot.bindOf i1 (Tot.bindIdx b.1 rfl hb (Tot.bindIdx b.1 rfl hb ?_)))
    rw [hw3]
    refine hj _ ⟨b.1+1,rfl,by simp only;rw [List.length_set];exact b1,by omega,?_,fun j hj => ?_⟩
    ·rw [if_neg (fun e=>hne (Option.some.inj e)),← b3]
     simp only
     rw [List.take_succ_eq_append_getElem (by rw [List.length_set];exact hb),List.getElem_set_self,List.take_set_of_le (Nat.le_refl _)]
    ·simp only
     rw [List.getElem?_set,if_neg (by omega)]
     exact b4 j (by omega)
   ·have he:l[k+m]=l[k+m+1]:=by
     have h:(!oeq l[k+m+1] l[k+m])=false:=h
     have h:oeq l[k+m+1] l[k+m]=true:=by simpa using h
     exact(oeq_iff.1 h).symm
    rw [if_pos (by rw [he])]
    exact b3
  ·rintro q ⟨i,q1,q2,q3,q4,q5⟩
   exact Tot.step (i,q.2) (by rw [q1]) ⟨q2,q3,q4,q5⟩
 ·obtain⟨b1,b2,b3,b4⟩:=hb
  unfold slices_Compact_L1
  simp only [Int.toNat_natCast]
  refine Tot.iteF (decide_eq_false (by omega)) (Tot.last ⟨b.1,rfl,by omega,b1,?_⟩)
  rw [show l.take (k+(l.length-k-1)+1)=l from List.take_of_length_le (by omega)] at b3
  exact b3
theorem compact_eq {l:List aObject} (hl:l.length≤1000000):slices_Compact l=some (dd l):=by
 refine Tot.eq ?_
 unfold slices_Compact
 refine Tot.ite (fun h=>Tot.some ?_) (fun h => ?_)
 ·have h:=of_decide_eq_true h
  match l,h with
  | [],_=>rfl
  | [x],_=>rfl
  | x :: y :: l,h=>simp only [List.length_cons] at h;omega
 ·have h:¬ ((l.length:Int)<2):=of_decide_eq_false h
  have one:dd (l.take 1)=l.take 1:=by
   cases l with
   | nil=>rfl
   | cons x l=>rfl
  refine Tot.bindRng (l.length-1) (fun m (_:Unit)=>((m+1:Nat):Int)) (fun m _=>dd (l.take (m+1))=l.take (m+1)) (fun x=>match x with | .inl r=>r=dd l | .inr _=>l=dd l) () rfl one (fun m u hm hb => ?_) (fun u hb => ?_) (fun x hx => ?_)
  ·have hw:w64 (((m+1:Nat):Int)+1)=((m+1+1:Nat):Int):=by rw [w64_id (by omega) (by omega)];rfl
   have hw2:w64 (((m+1:Nat):Int)-1)=(m:Int):=by rw [w64_id (by omega) (by omega)];omega
   have hj1:m+1<l.length:=by omega
   have hj0:m<l.length:=by omega
   have hlast:(dd (l.take (m+1))).getLast? = some l[m]:=by
    rw [dd_last,take_snoc hj0,List.getLast?_concat]
   have htk:l.take (m+1+1)=l.take (m+1)++[l[m+1]]:=take_snoc hj1
   unfold slices_Compact_L0
   rw [hw,hw2]
   refine Tot.iteT (decide_eq_true (by omega)) (Tot.bindIdx (m+1) rfl hj1 (Tot.bindIdx (m+1) rfl hj1 (Tot.bindIdx m rfl hj0 (Tot.bindIdx m rfl hj0 (Tot.ite (fun h2 => ?_) (fun h2=>Tot.step () rfl ?_))))))
   ·have he:l[m+1]=l[m]:=oeq_iff.1 h2
    have hd:dd (l.take (m+1+1))=l.take (m+1):=by
     rw [htk,dd_snoc,hlast,if_pos (by rw [he]),hb]
    refine Tot.chk (by simp;omega) (Tot.bindT (cp_L1 (k:=m+1) (by omega) hj1 hl hd) ?_)
    rintro p ⟨i,p1,p2,p3,p4⟩
    rw [p1,Int.toNat_natCast]
    refine Tot.chk (by simp;omega) (Tot.chk (by simp;omega) (Tot.chk (by simp;omega) (Tot.chk (by simp;omega) (Tot.stop ?_))))
    rw [← p4,List.append_assoc,List.take_append_of_le_length (by rw [List.length_take];omega),List.take_take,Nat.min_self]
   ·have hne:¬ l[m]=l[m+1]:=fun e=>by
     have h3:oeq l[m+1] l[m]=true:=oeq_iff.2 e.symm
     have h2:oeq l[m+1] l[m]=false:=h2
     rw [h3] at h2;cases h2
    rw [htk,dd_snoc,hlast,if_neg (fun e=>hne (Option.some.inj e)),hb]
  ·unfold slices_Compact_L0
   refine Tot.iteF (decide_eq_false (by omega)) (Tot.last ?_)
   rw [List.take_of_length_le (by omega)] at hb
   exact hb.symm
  ·cases x with
   | inl r=>exact Tot.some hx
   | inr _=>exact Tot.some hx
def oLt (x y:aObject):Prop:=pLt x.fPrefix y.fPrefix∨(x.fPrefix=y.fPrefix∧(x.fMax<y.fMax∨(x.fMax=y.fMax∧x.fASN<y.fASN)))
theorem oLt_irr (x:aObject):¬ oLt x x:=by
 rintro(h | ⟨_,h⟩)
 ·exact pLt_irr _ h
 ·omega
theorem oLt_trans {x y z:aObject} (hx:aR x.fPrefix.fAddr) (hy:aR y.fPrefix.fAddr) (hz:aR z.fPrefix.fAddr) (h:oLt x y) (k:oLt y z):oLt x z:=by
 rcases h with h | ⟨h1,h2⟩<;>rcases k with k | ⟨k1,k2⟩
 ·exact .inl (pLt_trans hx hy hz h k)
 ·exact .inl (by rw [← k1];exact h)
 ·exact .inl (by rw [h1];exact k)
 ·exact .inr ⟨h1.trans k1,by omega⟩
theorem oLt_tri {x y:aObject} (hx:aR x.fPrefix.fAddr) (hy:aR y.fPrefix.fAddr) (h1:¬ oLt x y) (h2:¬ oLt y x):x=y:=by
 have e:=pLt_tri hx hy (fun e=>h1 (.inl e)) (fun e=>h2 (.inl e))
 have a:¬ (x.fMax<y.fMax∨(x.fMax=y.fMax∧x.fASN<y.fASN)):=fun g=>h1 (.inr ⟨e,g⟩)
 have b:¬ (y.fMax<x.fMax∨(y.fMax=x.fMax∧y.fASN<x.fASN)):=fun g=>h2 (.inr ⟨e.symm,g⟩)
 obtain⟨p,m,n⟩:=x
 obtain⟨p',m',n'⟩:=y
 simp only at e a b
 rw [e,show m=m' by omega,show n=n' by omega]
theorem compare_obj {x y:aObject} (hx:aR x.fPrefix.fAddr) (hy:aR y.fPrefix.fAddr):∃ z,irr_Compare x y=some z∧(z<0↔oLt x y):=by
 unfold irr_Compare
 suffices h:Tot ((prefix_Cmp x.fPrefix y.fPrefix).bind fun r1=>(cmp_Compare x.fMax y.fMax).bind fun r2=>(cmp_Compare x.fASN y.fASN).bind fun r3=>(cmp_Or [r1,r2,r3]).bind fun r4=>some r4) (fun z=>z<0↔oLt x y) from h
 refine Tot.bindOf (pcmp_eq hx hy) (Tot.bindOf (compare_eq _ _) (Tot.bindOf (compare_eq _ _) (Tot.bindOf (or_eq _ (by simp)) (Tot.some ?_))))
 have c0:=cmpP_lt x.fPrefix y.fPrefix
 have c1:=cmpP_zero hx hy
 unfold oLt
 rw [← c0,← c1]
 generalize cmpP x.fPrefix y.fPrefix=a
 have key:∀ a b c:Int,orL [a,b,c]=if a≠0 then a else if b≠0 then b else c:=fun a b c=>by
  unfold orL orL orL orL
  by_cases h1:a=0<;>by_cases h2:b=0<;>by_cases h3:c=0<;>simp [h1,h2,h3]
 rw [key]
 by_cases h1:a=0
 ·rw [if_neg (by simpa using h1)]
  by_cases h2:x.fMax<y.fMax
  ·rw [if_pos h2,if_pos (by decide)];omega
  ·rw [if_neg h2]
   by_cases h3:y.fMax<x.fMax
   ·rw [if_pos h3,if_pos (by decide)];omega
   ·rw [if_neg h3,if_neg (by simp)]
    split
    ·omega
    ·split<;>omega
 ·rw [if_pos h1];omega
structure Good (cs:List aCert) (an:List Int) (now:Int) (s:aSigned):Prop where
 p:FormedP s
 f:s.fFrom≤now
 u:now≤s.fUntil
 h:∃ (i:Nat) (c:aCert),cs[i]? = some c∧c.fKey=s.fKey∧Tr cs an now 15 i∧HoldP c.fResources s
theorem rcov_tot {a b:aResources} (ha:VRes a) (hb:VRes b):Tot (xref21_Covers a b) (fun c=>c=true↔(∀ n,cA b n→cA a n)∧(∀ n,cS b n→cS a n)):=by
 unfold xref21_Covers
 obtain⟨_,e,A,S,h,rfl⟩:=rmin_tot hb ha
 refine Tot.bindOf e (Tot.some ?_)
 have k1:A.length=0↔∀ n,cA b n→cA a n:=by
  rw [map_nil_iff (f:=ivA),nil_iff h.va.1]
  constructor
  ·intro g n hn
   by_cases c:cA a n
   ·exact c
   ·exact(g n ((h.ia n).2 ⟨hn,c⟩)).elim
  ·intro g n hn
   obtain⟨g1,g2⟩:=(h.ia n).1 hn
   exact g2 (g n g1)
 have k2:S.length=0↔∀ n,cS b n→cS a n:=by
  rw [map_nil_iff (f:=ivS),nil_iff h.vs.1]
  constructor
  ·intro g n hn
   by_cases c:cS a n
   ·exact c
   ·exact(g n ((h.is n).2 ⟨hn,c⟩)).elim
  ·intro g n hn
   obtain⟨g1,g2⟩:=(h.is n).1 hn
   exact g2 (g n g1)
 rw [← k1,← k2]
 unfold LimF
 split
 ·constructor
  ·intro e;cases e
  ·rintro⟨e1,e2⟩;omega
 ·rw [Bool.and_eq_true,Bool.and_eq_true]
  exact⟨fun e=>⟨by have:=beq_iff_eq.1 e.1.2;simp only at this;omega,by have:=beq_iff_eq.1 e.2;simp only at this;omega⟩,fun e=>⟨⟨rfl,beq_iff_eq.2 (by simp only;have:=e.1;omega)⟩,beq_iff_eq.2 (by simp only;have:=e.2;omega)⟩⟩
theorem anchored_tot {l:List Int} {x:Int} (hl:l.length≤1000000000):Tot (xref22_anchored l x) (fun b=>b=true↔x∈l):=by
 unfold xref22_anchored
 refine Tot.bindRng l.length (fun k (_:Unit)=>((k:Nat):Int)) (fun k _=>¬ x∈l.take k) (fun y=>match y with | .inl _=>x∈l | .inr _=>¬ x∈l) () rfl (by simp) (fun k b hk hb => ?_) (fun b hb => ?_) (fun y hy => ?_)
 ·unfold xref22_anchored_L0
  have hw:w64 ((k:Int)+1)=((k+1:Nat):Int):=by rw [w64_id (by omega) (by omega)];rfl
  refine Tot.iteT (by simpa using hk) (Tot.bindIdx k rfl hk (Tot.ite (fun h=>Tot.stop ?_) (fun h=>Tot.step () (by rw [hw]) fun hm => ?_)))
  ·rw [← beq_iff_eq.1 h];exact List.getElem_mem hk
  ·rw [take_snoc hk] at hm
   rcases List.mem_append.1 hm with hm | hm
   ·exact hb hm
   ·exact(beq_eq_false_iff_ne.1 h) (List.mem_singleton.1 hm).symm
 ·unfold xref22_anchored_L0
  refine Tot.iteF (by simp) (Tot.last ?_)
  rw [List.take_length] at hb
  exact hb
 ·cases y with
  | inl _=>exact Tot.some ⟨fun _=>hy,fun _=>rfl⟩
  | inr _=>exact Tot.some ⟨fun e=>(by cases e),fun e=>(hy e).elim⟩
section
variable {cs:List aCert} {an:List Int} {now:Int}
theorem rtrust_L0 (hr:∀ c∈cs,Raw c.fResources) (hl:cs.length≤1000000) (ha:an.length≤1000000000) :
  Tot (loop (xref22_Trusted_L0 cs an now) ((0:Int),List.replicate cs.length false)) (fun p=>p.length=cs.length∧∀ i,p[i]? = some true↔Tr cs an now 0 i):=by
 refine Tot.rng cs.length (fun k (s:List Bool)=>(((k:Nat):Int),s)) (fun k p=>p.length=cs.length∧∀ i,i<k→(p[i]? = some true↔Tr cs an now 0 i)) _ (List.replicate cs.length false) rfl ⟨by simp,fun i h=>by omega⟩ (fun k s hk hs => ?_) (fun s hs => ?_)
 ·obtain⟨s2,s4⟩:=hs
  have hw:w64 ((k:Int)+1)=((k+1:Nat):Int):=by rw [w64_id (by omega) (by omega)];rfl
  have hk2:k<s.length:=by omega
  have hcs:cs[k]? = some cs[k]:=List.getElem?_eq_getElem hk
  have hraw:=hr _ (List.getElem_mem hk)
  unfold xref22_Trusted_L0
  refine Tot.iteT (by simpa using hk) (Tot.bindIdx k rfl hk (Tot.jnR (fun m:List Bool=>∃ b,m=s.set k b∧(b=true↔Tr cs an now 0 k)) (fun j hj => ?_) (fun m hm => ?_)))
  ·have no:¬ Tr cs an now 0 k→∀ b,b=false→(∃ b',s.set k b=s.set k b'∧(b'=true↔Tr cs an now 0 k)):=fun h b e=>⟨false,by rw [e],fun e=>(by cases e),fun e=>(h e).elim⟩
   refine Tot.ite (fun h1=>Tot.bindT (anchored_tot ha) fun c hc=>Tot.ite (fun h2=>Tot.bindOf (show xref22_current cs[k].fFrom cs[k].fUntil now=some _ from rfl) (Tot.ite (fun h3 => ?_) (fun h3 => ?_))) (fun h2 => ?_)) (fun h1 => ?_)
   ·simp only [Bool.and_eq_true,decide_eq_true_eq] at h3
    refine Tot.bindT (rvalid21 hraw.R hraw.la hraw.ls) fun b hb=>Tot.bindIdx k rfl hk2 (Tot.bindIdx k rfl hk2 (hj _ ⟨b,rfl,?_⟩))
    rw [hb,tr_zero hcs]
    exact⟨fun e=>⟨⟨h3.1,h3.2,e⟩,beq_iff_eq.1 h1,hc.1 h2⟩,fun e=>e.1.v⟩
   ·refine Tot.bindIdx k rfl hk2 (Tot.bindIdx k rfl hk2 (hj _ (no (fun e => ?_) false rfl)))
    rw [tr_zero hcs] at e
    rw [decide_eq_true e.1.f,decide_eq_true e.1.t] at h3
    cases h3
   ·refine Tot.bindIdx k rfl hk2 (Tot.bindIdx k rfl hk2 (hj _ (no (fun e => ?_) false rfl)))
    rw [tr_zero hcs] at e
    rw [hc.2 e.2.2] at h2
    cases h2
   ·refine Tot.bindIdx k rfl hk2 (Tot.bindIdx k rfl hk2 (hj _ (no (fun e => ?_) false rfl)))
    rw [tr_zero hcs] at e
    exact(beq_eq_false_iff_ne.1 h1) e.2.1
  ·obtain⟨b2,rfl,hb2⟩:=hm
   refine Tot.step (s.set k b2) (by rw [hw]) ⟨by rw [List.length_set];exact s2,fun i hi => ?_⟩
   rw [bset hk2]
   by_cases e:k=i
   ·subst e
    rw [if_pos rfl,Option.some.injEq]
    exact hb2
   ·rw [if_neg e]
    exact s4 i (by omega)
 ·obtain⟨s2,s4⟩:=hs
  unfold xref22_Trusted_L0
  refine Tot.iteF (by simp) (Tot.last ⟨s2,fun i => ?_⟩)
  by_cases e:i<cs.length
  ·exact s4 i e
  ·simp only
   rw [List.getElem?_eq_none (by omega)]
   exact⟨fun h=>(by cases h),fun h=>(e (tr_lt h)).elim⟩
theorem rtrust_L3 {t:Int×List Bool} {m:Nat} (hl:cs.length≤1000000) (ht:t.2.length=cs.length) (htr:∀ i,t.2[i]? = some true↔Tr cs an now m i) {c:aCert} (hc:VRes c.fResources) {z:Int×List Bool} {i:Nat} (hz:z.1=i) {o:List Bool} (hi:i<o.length) (ho:o[i]? = some false) :
  Tot (loop (xref22_Trusted_L3 cs t z c) ((0:Int),o)) (fun r=>∃ b,r=o.set i b∧(b=true↔∃ j d,cs[j]? = some d∧Tr cs an now m j∧d.fKey=c.fIssuer∧Sub d c)):=by
 have h0:o.set i false=o:=by
  refine List.ext_getElem? fun j => ?_
  rw [bset hi]
  by_cases e:i=j
  ·subst e;rw [if_pos rfl,ho]
  ·rw [if_neg e]
 refine Tot.rng cs.length (fun k (b:Bool)=>(((k:Nat):Int),o.set i b)) (fun k b=>b=true↔∃ j d,j<k∧cs[j]? = some d∧Tr cs an now m j∧d.fKey=c.fIssuer∧Sub d c) _ false (by rw [h0];rfl) ⟨fun e=>(by cases e),fun⟨j,d,h,_⟩=>by omega⟩ (fun k b hk hb => ?_) (fun b hb => ?_)
 ·have hw:w64 ((k:Int)+1)=((k+1:Nat):Int):=by rw [w64_id (by omega) (by omega)];rfl
  have hkt:k<t.2.length:=by omega
  have hcs:cs[k]? = some cs[k]:=List.getElem?_eq_getElem hk
  have hi2:i<(o.set i b).length:=by rw [List.length_set];exact hi
  have hget:(o.set i b)[i]=b:=List.getElem_set_self _
  unfold xref22_Trusted_L3
  rw [hz]
  refine Tot.iteT (by simpa using hk) (Tot.bindIdx k rfl hk (Tot.jnR (fun r:List Bool=>∃ b2,r=o.set i b2∧(b2=true↔∃ j d,j<k+1∧cs[j]? = some d∧Tr cs an now m j∧d.fKey=c.fIssuer∧Sub d c)) (fun j hj => ?_) (fun r hr => ?_)))
  ·refine Tot.bindIdx i rfl hi2 (Tot.bindIdx i rfl hi2 ?_)
   rw [hget]
   simp only [Int.toNat_natCast,List.set_set]
   refine Tot.ite (fun h=>Tot.bindIdx i rfl hi2 (Tot.bindIdx i rfl hi2 (hj _ ⟨true,rfl,fun _ => ?_,fun _=>rfl⟩))) (fun h => ?_)
   ·obtain⟨j2,d,h1,h2⟩:=hb.1 h
    exact⟨j2,d,by omega,h2⟩
   ·have hno:¬ ∃ j d,j<k∧cs[j]? = some d∧Tr cs an now m j∧d.fKey=c.fIssuer∧Sub d c:=fun e=>by rw [hb.2 e] at h;cases h
    refine Tot.bindIdx k rfl hkt (Tot.ite (fun h2 => ?_) (fun h2 => ?_))
    ·simp only [Bool.and_eq_true,beq_iff_eq] at h2
     have hk1:=(htr k).1 (by rw [List.getElem?_eq_getElem hkt,h2.1])
     obtain⟨d,e1,e2⟩:=tr_fine hk1
     rw [hcs] at e1
     cases e1
     refine Tot.bindT (rcov_tot e2.v hc) fun b3 hb3=>Tot.bindIdx i rfl hi2 (Tot.bindIdx i rfl hi2 (hj _ ⟨b3,rfl,?_⟩))
     rw [hb3]
     constructor
     ·intro e
      exact⟨k,_,by omega,hcs,hk1,h2.2,e⟩
     ·rintro⟨j2,d,g1,g2,g3,g4,g5⟩
      rcases Nat.lt_or_ge j2 k with cc | cc
      ·exact(hno ⟨j2,d,cc,g2,g3,g4,g5⟩).elim
      ·have:j2=k:=by omega
       subst this
       rw [hcs] at g2
       cases g2
       exact g5
    ·refine Tot.bindIdx i rfl hi2 (Tot.bindIdx i rfl hi2 (hj _ ⟨false,rfl,fun e=>(by cases e),?_⟩))
     rintro⟨j2,d,g1,g2,g3,g4,g5⟩
     rcases Nat.lt_or_ge j2 k with cc | cc
     ·exact(hno ⟨j2,d,cc,g2,g3,g4,g5⟩).elim
     ·have:j2=k:=by omega
      subst this
      rw [hcs] at g2
      cases g2
      have h1:=(htr j2).2 g3
      rw [List.getElem?_eq_getElem hkt] at h1
      rw [Option.some.inj h1,g4] at h2
      simp at h2
  ·obtain⟨b2,rfl,hb2⟩:=hr
   exact Tot.step b2 (by rw [hw]) hb2
 ·unfold xref22_Trusted_L3
  refine Tot.iteF (by simp) (Tot.last ⟨b,rfl,hb.trans ⟨fun⟨j,d,_,h⟩=>⟨j,d,h⟩,fun⟨j,d,h⟩=>⟨j,d,tr_lt h.2.1,h⟩⟩⟩)
theorem rtrust_L2 {t:Int×List Bool} {m:Nat} (hr:∀ c∈cs,Raw c.fResources) (hl:cs.length≤1000000) (ht:t.2.length=cs.length) (htr:∀ i,t.2[i]? = some true↔Tr cs an now m i) :
  Tot (loop (xref22_Trusted_L2 cs now t) ((0:Int),t.2)) (fun o=>o.length=cs.length∧∀ i,o[i]? = some true↔Tr cs an now (m+1) i):=by
 refine Tot.rng cs.length (fun k (s:List Bool)=>(((k:Nat):Int),s)) (fun k o=>o.length=cs.length∧(∀ i,i<k→(o[i]? = some true↔Tr cs an now (m+1) i))∧∀ i,k≤i→o[i]? = t.2[i]?) _ t.2 rfl ⟨ht,fun i h=>by omega,fun _ _=>rfl⟩ (fun k s hk hs => ?_) (fun s hs => ?_)
 ·obtain⟨s1,s2,s3⟩:=hs
  have hw:w64 ((k:Int)+1)=((k+1:Nat):Int):=by rw [w64_id (by omega) (by omega)];rfl
  have hk1:k<s.length:=by omega
  have hkt:k<t.2.length:=by omega
  have hcs:cs[k]? = some cs[k]:=List.getElem?_eq_getElem hk
  have hraw:=hr _ (List.getElem_mem hk)
  have htk:t.2[k]=true↔Tr cs an now m k:=by
   rw [← htr,List.getElem?_eq_getElem hkt,Option.some.injEq]
  unfold xref22_Trusted_L2
  refine Tot.iteT (by simpa using hk) (Tot.jnR (fun o:List Bool=>∃ b,o=s.set k b∧(b=true↔Tr cs an now (m+1) k)) (fun j hj=>Tot.bindIdx k rfl hk ?_) (fun o ho => ?_))
  ·have same:∀ b,t.2[k]=b→(b=true↔Tr cs an now (m+1) k)→∃ b',s=s.set k b'∧(b'=true↔Tr cs an now (m+1) k):=fun b e h=>by
    refine⟨b,?_,h⟩
    refine List.ext_getElem? fun i => ?_
    rw [bset hk1]
    by_cases e2:k=i
    ·subst e2
     rw [if_pos rfl,s3 k (Nat.le_refl _),List.getElem?_eq_getElem hkt,e]
    ·rw [if_neg e2]
   refine Tot.jnR (fun q:Bool=>(q=true→∃ b',s=s.set k b'∧(b'=true↔Tr cs an now (m+1) k))∧(q=false→t.2[k]=false∧Fine cs[k] now∧cs[k].fIssuer≠cs[k].fKey)) (fun j2 hj2=>Tot.bindIdx k rfl hkt (Tot.ite (fun h=>hj2 _ ⟨fun _ => ?_,fun e=>(by cases e)⟩) (fun h => ?_))) (fun q hq=>Tot.ite (fun h=>hj _ (hq.1 h)) (fun h => ?_))
   ·cases e:t.2[k] with
    | true=>exact same true e ⟨fun _ => .up (htk.1 e),fun _=>rfl⟩
    | false =>
     rw [e] at h
     have hself:cs[k].fIssuer=cs[k].fKey:=by simpa using h
     refine same false e ⟨fun e=>(by cases e),fun g => ?_⟩
     rw [tr_succ hcs] at g
     rcases g with g | g
     ·rw [htk.2 g] at e;cases e
     ·exact(g.2.1 hself).elim
   ·simp only [Bool.or_eq_false_iff,beq_eq_false_iff_ne] at h
    obtain⟨h1,h2⟩:=h
    have bad:¬ Fine cs[k] now→∃ b',s=s.set k b'∧(b'=true↔Tr cs an now (m+1) k):=fun hf=>same false h1 ⟨fun e=>(by cases e),fun g=>by
     rw [tr_succ hcs] at g
     rcases g with g | g
     ·rw [htk.2 g] at h1;cases h1
     ·exact(hf g.1).elim⟩
    refine Tot.bindOf (show xref22_current cs[k].fFrom cs[k].fUntil now=some _ from rfl) (Tot.ite (fun h3=>hj2 _ ⟨fun _=>bad fun hf => ?_,fun e=>(by cases e)⟩) (fun h3 => ?_))
    ·rw [decide_eq_true hf.f,decide_eq_true hf.t] at h3
     cases h3
    ·have h3:decide (cs[k].fFrom≤now)=true∧decide (now≤cs[k].fUntil)=true:=by simpa using h3
     refine Tot.bindT (rvalid21 hraw.R hraw.la hraw.ls) fun b hb=>hj2 _ ?_
     cases b with
     | true=>exact⟨fun e=>(by cases e),fun _=>⟨h1,⟨of_decide_eq_true h3.1,of_decide_eq_true h3.2,hb.1 rfl⟩,h2⟩⟩
     | false=>exact⟨fun _=>bad fun hf=>(by have:=hb.2 hf.v;cases this),fun e=>(by cases e)⟩
   ·obtain⟨g1,g2,g3⟩:=hq.2 h
    have hsk:s[k]? = some false:=by rw [s3 k (Nat.le_refl _),List.getElem?_eq_getElem hkt,g1]
    refine Tot.bindT (rtrust_L3 (i:=k) hl ht htr g2.v rfl hk1 hsk) ?_
    rintro r ⟨b,rfl,hb⟩
    refine hj _ ⟨b,rfl,?_⟩
    rw [hb,tr_succ hcs]
    exact⟨fun e => .inr ⟨g2,g3,e⟩,fun e=>(e.resolve_left fun e2=>by rw [htk.2 e2] at g1;cases g1).2.2⟩
  ·obtain⟨b,rfl,hb⟩:=ho
   refine Tot.step (s.set k b) (by rw [hw]) ⟨by rw [List.length_set];exact s1,fun i hi => ?_,fun i hi => ?_⟩
   ·rw [bset hk1]
    by_cases e:k=i
    ·subst e
     rw [if_pos rfl,Option.some.injEq]
     exact hb
    ·rw [if_neg e]
     exact s2 i (by omega)
   ·rw [bset hk1,if_neg (by omega)]
    exact s3 i (by omega)
 ·obtain⟨s1,s2,s3⟩:=hs
  unfold xref22_Trusted_L2
  refine Tot.iteF (by simp) (Tot.last ⟨s1,fun i => ?_⟩)
  by_cases e:i<cs.length
  ·exact s2 i e
  ·simp only
   rw [List.getElem?_eq_none (by omega)]
   exact⟨fun h=>(by cases h),fun h=>(e (tr_lt h)).elim⟩
end
theorem rtrusted_tot {cs:List aCert} {an:List Int} {now:Int} (hr:∀ c∈cs,Raw c.fResources) (hl:cs.length≤1000000) (ha:an.length≤1000000000) :
  Tot (xref22_Trusted cs an now) (fun t=>t.length=cs.length∧∀ i,t[i]? = some true↔Tr cs an now 15 i):=by
 unfold xref22_Trusted
 have hc:((decide (0≤(cs.length:Int))&&decide ((cs.length:Int)≤(cs.length:Int))&&decide ((cs.length:Int)≤(LIM:Int))))=true:=by
  rw [decide_eq_true (by omega),decide_eq_true (Int.le_refl _),decide_eq_true (show(cs.length:Int)≤(LIM:Int) from Int.ofNat_le.2 (show cs.length≤4294967296 by omega))]
  rfl
 refine Tot.chk hc ?_
 rw [Int.toNat_natCast]
 refine Tot.bindT (rtrust_L0 hr hl ha) fun p hp => ?_
 refine Tot.bindRng 15 (fun k (s:List Bool)=>(((k:Nat):Int),s)) (fun k t=>t.length=cs.length∧∀ i,t[i]? = some true↔Tr cs an now k i) (fun t=>t.length=cs.length∧∀ i,t[i]? = some true↔Tr cs an now 15 i) p rfl hp (fun k s hk hs => ?_) (fun s hs => ?_) (fun t ht=>Tot.some ht)
 ·have hw:w64 ((k:Int)+1)=((k+1:Nat):Int):=by rw [w64_id (by omega) (by omega)];rfl
  obtain⟨s1,s2⟩:=hs
  unfold xref22_Trusted_L1
  exact Tot.iteT (decide_eq_true (show(k:Int)<15 by omega)) (Tot.chk (limB (show s.length≤4000000000 by omega)) (Tot.bindT (rtrust_L2 (t:=((k:Int),s)) hr hl s1 s2) fun o ho=>Tot.step o (by rw [hw]) ho))
 ·unfold xref22_Trusted_L1
  exact Tot.iteF rfl (Tot.last hs)
theorem bools_one {a b:List Bool} (hl:a.length=b.length) (h:∀ i:Nat,a[i]? = some true↔b[i]? = some true):a=b:=by
 refine List.ext_getElem? fun i => ?_
 have:=h i
 by_cases hi:i<a.length
 ·rw [List.getElem?_eq_getElem hi,List.getElem?_eq_getElem (show i<b.length by omega)] at this ⊢
  simp only [Option.some.injEq] at this ⊢
  cases e:a[i]<;>cases e2:b[i]
  ·rfl
  ·rw [this.2 e2] at e;cases e
  ·rw [this.1 e] at e2;cases e2
  ·rfl
 ·rw [List.getElem?_eq_none (by omega),List.getElem?_eq_none (by omega)]
theorem trust_both {cs:List aCert} {an:List Int} {now:Int} (hr:∀ c∈cs,Raw c.fResources) (hl:cs.length≤1000000) (ha:an.length≤1000000000) :
  ∃ t,origin_Trusted cs an now=some t∧xref22_Trusted cs an now=some t∧t.length=cs.length∧∀ i,t[i]? = some true↔Tr cs an now 15 i:=by
 obtain⟨t,e1,h1,h2⟩:=trusted_tot (now:=now) hr hl ha
 obtain⟨t',e2,h3,h4⟩:=rtrusted_tot (now:=now) hr hl ha
 have:t=t':=bools_one (by omega) fun i=>(h2 i).trans (h4 i).symm
 subst this
 exact⟨t,e1,e2,h1,h2⟩
open Classical in
/-- what is known after k certificates: nothing more to say, or a reason -/
noncomputable def exS (cs:List aCert) (t:List Bool) (s:aSigned):Nat→Option Int
 | 0=>some 11
 | k+1=>match exS cs t s k with
  | none=>none
  | some e=>match cs[k]?,t[k]? with
   | some c,some b=>if c.fKey=s.fKey then (if b=true then (if HoldP c.fResources s then none else some 17) else some (if e=11 then 16 else e)) else some e
   | _,_=>some e
theorem exS_none {cs:List aCert} {t:List Bool} {s:aSigned} {k:Nat} (h:exS cs t s k=none):∀ n,k≤n→exS cs t s n=none
 | 0,hn=>by
  have:k=0:=by omega
  subst this;exact h
 | n+1,hn=>by
  by_cases e:k=n+1
  ·rw [← e];exact h
  ·have:=exS_none h n (by omega)
   simp only [exS,this]
noncomputable def exV (cs:List aCert) (t:List Bool) (s:aSigned):Int:=match exS cs t s cs.length with
 | none=>0
 | some e=>e
open Classical in
/-- why a signed origin is not good -/
noncomputable def whyV (cs:List aCert) (t:List Bool) (s:aSigned) (now:Int):Int:=if FormedP s then (if s.fFrom≤now∧now≤s.fUntil then exV cs t s else 14) else 1
section
variable {cs:List aCert} {t:List Bool} {s:aSigned} {now:Int}
theorem explain_eq (hl:cs.length≤1000000) (ht:t.length=cs.length) (hf:∀ (i:Nat) (c:aCert),t[i]? = some true→cs[i]? = some c→VRes c.fResources) (ho:∀ o∈s.fObjects,aR o.fPrefix.fAddr) :
  origin_explain cs t s now=some (whyV cs t s now):=by
 refine Tot.eq ?_
 unfold origin_explain
 refine Tot.bindT (formed_tot ho) fun b hb=>Tot.ite (fun h=>Tot.some ?_) (fun h => ?_)
 ·have:¬ FormedP s:=fun g=>by rw [hb.2 g] at h;cases h
  unfold whyV;rw [if_neg this]
 ·have hp:=hb.1 (by simpa using h)
  refine Tot.bindOf (show origin_current s.fFrom s.fUntil now=some _ from rfl) (Tot.ite (fun h=>Tot.some ?_) (fun h => ?_))
  ·have:¬ (s.fFrom≤now∧now≤s.fUntil):=fun g=>by rw [decide_eq_true g.1,decide_eq_true g.2] at h;cases h
   unfold whyV;rw [if_pos hp,if_neg this]
  ·have h:decide (s.fFrom≤now)=true∧decide (now≤s.fUntil)=true:=by simpa using h
   refine Tot.mono (P':=fun e=>e=exV cs t s) ?_ fun e he=>by unfold whyV;rw [if_pos hp,if_pos ⟨of_decide_eq_true h.1,of_decide_eq_true h.2⟩];exact he
   refine Tot.bindRng cs.length (fun k (e:Int)=>(e,((k:Nat):Int))) (fun k e=>exS cs t s k=some e) (fun x=>match x with | .inl _=>exS cs t s cs.length=none | .inr e=>exS cs t s cs.length=some e) 11 rfl rfl (fun k e hk hb => ?_) (fun e hb => ?_) (fun x hx => ?_)
   ·have hw:w64 ((k:Int)+1)=((k+1:Nat):Int):=by rw [w64_id (by omega) (by omega)];rfl
    have hkt:k<t.length:=by omega
    have hcs:cs[k]? = some cs[k]:=List.getElem?_eq_getElem hk
    have htk:t[k]? = some t[k]:=List.getElem?_eq_getElem hkt
    unfold origin_explain_L0
    refine Tot.iteT (by simpa using hk) (Tot.bindIdx k rfl hk (Tot.jnR (fun m:Int=>exS cs t s (k+1)=some m) (fun j hj=>Tot.ite (fun h=>hj _ ?_) (fun h=>Tot.bindIdx k rfl hkt (Tot.ite (fun h3 => ?_) (fun h3 => ?_)))) (fun m hm=>Tot.step m (by rw [hw]) hm)))
    ·simp only [exS,hb,hcs,htk]
     rw [if_neg (bne_iff_ne.1 h)]
    ·have hkey:cs[k].fKey=s.fKey:=bne_eq_false_iff_eq.1 h
     have h3:t[k]=false:=by simpa using h3
     refine Tot.ite (fun h4=>hj _ ?_) (fun h4=>hj _ ?_)
     ·simp only [exS,hb,hcs,htk,h3]
      rw [if_pos hkey,if_neg (by simp),if_pos (beq_iff_eq.1 h4)]
     ·simp only [exS,hb,hcs,htk,h3]
      rw [if_pos hkey,if_neg (by simp),if_neg (beq_eq_false_iff_ne.1 h4)]
    ·have hkey:cs[k].fKey=s.fKey:=bne_eq_false_iff_eq.1 h
     have h3:t[k]=true:=by simpa using h3
     refine Tot.bindT (holds_tot (hf k _ (by rw [htk,h3]) hcs) (fun o hom=>(hp.o o hom).v) (by have:=hp.n;omega)) fun b hb2=>Tot.ite (fun h4=>hj _ ?_) (fun h4=>Tot.stop (exS_none (k:=k+1) ?_ _ (by omega)))
     ·have hnh:¬ HoldP cs[k].fResources s:=fun g=>by rw [hb2.2 g] at h4;cases h4
      simp only [exS,hb,hcs,htk,h3]
      rw [if_pos hkey,if_pos trivial,if_neg hnh]
     ·have hh:HoldP cs[k].fResources s:=hb2.1 (by simpa using h4)
      simp only [exS,hb,hcs,htk,h3]
      rw [if_pos hkey,if_pos trivial,if_pos hh]
   ·unfold origin_explain_L0
    exact Tot.iteF (by simp) (Tot.last hb)
   ·cases x with
    | inl _=>exact Tot.some (by unfold exV;simp only at hx;rw [hx])
    | inr e=>exact Tot.some (by unfold exV;simp only at hx;rw [hx])
theorem right_tot (hl:s.fObjects.length≤1000000) (ho:∀ o∈s.fObjects,aR o.fPrefix.fAddr):Tot (xref22_right s) (fun b=>b=true↔FormedP s):=by
 unfold xref22_right
 refine Tot.bindRng s.fObjects.length (fun k (_:Unit)=>((k:Nat):Int)) (fun k _=>∀ x∈s.fObjects.take k,FormedO s x) (fun y=>match y with | .inl _=>¬ ∀ x∈s.fObjects,FormedO s x | .inr _=>∀ x∈s.fObjects,FormedO s x) () rfl (by simp) (fun k b hk hb => ?_) (fun b hb => ?_) (fun y hy => ?_)
 ·have hw:w64 ((k:Int)+1)=((k+1:Nat):Int):=by rw [w64_id (by omega) (by omega)];rfl
  have hm:=List.getElem_mem hk
  have hR:=ho _ hm
  unfold xref22_right_L0
  refine Tot.iteT (by simpa using hk) (Tot.bindIdx k rfl hk (Tot.jnR (fun m:Int=>m=((wid s.fObjects[k].fPrefix.fAddr.fV6:Nat):Int)) (fun j hj=>Tot.ite (fun h=>hj _ (by rw [h];rfl)) (fun h=>hj _ (by rw [h];rfl))) (fun m hmw => ?_)))
  subst hmw
  refine Tot.bindOf (rvalid_eq hR) (Tot.ite (fun h=>Tot.stop fun g => ?_) (fun h=>Tot.step () (by rw [hw]) fun x hx => ?_))
  ·have f:=g _ hm
   rw [validF_iff.2 f.v] at h
   simp only [Bool.not_true,Bool.false_or,Bool.or_eq_true,decide_eq_true_eq,bne_iff_ne] at h
   have h1:=f.l
   have h2:=f.m
   have h3:=f.a
   rcases h with (h | h) | h
   ·omega
   ·omega
   ·exact h h3
  ·rw [take_snoc hk] at hx
   rcases List.mem_append.1 hx with hx | hx
   ·exact hb x hx
   ·rw [List.mem_singleton.1 hx]
    simp only [Bool.or_eq_false_iff,Bool.not_eq_false',decide_eq_false_iff_not,bne_eq_false_iff_eq] at h
    exact⟨h.2,validF_iff.1 h.1.1.1,by omega,by omega⟩
 ·unfold xref22_right_L0
  refine Tot.iteF (by simp) (Tot.last ?_)
  rw [List.take_length] at hb
  exact hb
 ·cases y with
  | inl _=>exact Tot.some ⟨fun e=>(by cases e),fun g=>(hy g.o).elim⟩
  | inr _ =>
   refine Tot.some ?_
   simp only [Bool.and_eq_true,decide_eq_true_eq]
   exact⟨fun e=>⟨e.1.1,e.1.2,by omega,hy⟩,fun g=>⟨⟨g.a0,g.a1⟩,by have:=g.n;omega⟩⟩
theorem rhold_tot {c:aCert} (hv:VRes c.fResources) (hl:s.fObjects.length≤1000000) (ho:∀ o∈s.fObjects,pV o.fPrefix):Tot (loop (xref22_Explain_L1 s c) (true,(0:Int))) (fun b=>b=true↔HoldP c.fResources s):=by
 have hla:=hv.la
 refine Tot.rng s.fObjects.length (fun k (b:Bool)=>(b,((k:Nat):Int))) (fun k b=>b=true↔∀ o∈s.fObjects.take k,HasF c.fResources.fAddrs o.fPrefix) _ true rfl (by simp) (fun k b hk hb => ?_) (fun b hb => ?_)
 ·have hw:w64 ((k:Int)+1)=((k+1:Nat):Int):=by rw [w64_id (by omega) (by omega)];rfl
  have hm:=List.getElem_mem hk
  unfold xref22_Explain_L1
  refine Tot.iteT (by simpa using hk) (Tot.bindIdx k rfl hk (Tot.jnR (fun m:Bool=>m=true↔(b=true∧HasF c.fResources.fAddrs s.fObjects[k].fPrefix)) (fun j hj=>Tot.ite (fun h=>Tot.bindT (rhas_eq hv.av (by omega) (ho _ hm)) fun r hr=>hj _ ⟨fun e=>⟨h,hr.1 e⟩,fun e=>hr.2 e.2⟩) (fun h=>hj _ ⟨fun e=>(by cases e),fun e=>(by have h:b=false:=h;rw [h] at e;cases e.1)⟩)) (fun m hm2=>Tot.step m (by rw [hw]) ?_)))
  rw [hm2,hb,take_snoc hk]
  constructor
  ·rintro⟨g1,g2⟩ o hx
   rcases List.mem_append.1 hx with hx | hx
   ·exact g1 o hx
   ·rw [List.mem_singleton.1 hx];exact g2
  ·intro g
   exact⟨fun o hx=>g o (List.mem_append_left _ hx),g _ (List.mem_append_right _ (List.mem_singleton.2 rfl))⟩
 ·unfold xref22_Explain_L1
  refine Tot.iteF (by simp) (Tot.last ?_)
  rw [List.take_length] at hb
  exact hb
theorem rexplain_eq {an:List Int} (hl:cs.length≤1000000) (ht:t.length=cs.length) (hf:∀ (i:Nat) (c:aCert),t[i]? = some true→cs[i]? = some c→VRes c.fResources) (hs:s.fObjects.length≤1000000) (ho:∀ o∈s.fObjects,aR o.fPrefix.fAddr) (htr:xref22_Trusted cs an now=some t) :
  xref22_Explain cs an s now=some (whyV cs t s now):=by
 refine Tot.eq ?_
 unfold xref22_Explain
 refine Tot.bindT (right_tot hs ho) fun b hb=>Tot.ite (fun h=>Tot.some ?_) (fun h => ?_)
 ·have:¬ FormedP s:=fun g=>by rw [hb.2 g] at h;cases h
  unfold whyV;rw [if_neg this]
 ·have hp:=hb.1 (by simpa using h)
  refine Tot.bindOf (show xref22_current s.fFrom s.fUntil now=some _ from rfl) (Tot.ite (fun h=>Tot.some ?_) (fun h => ?_))
  ·have:¬ (s.fFrom≤now∧now≤s.fUntil):=fun g=>by rw [decide_eq_true g.1,decide_eq_true g.2] at h;cases h
   unfold whyV;rw [if_pos hp,if_neg this]
  ·have h:decide (s.fFrom≤now)=true∧decide (now≤s.fUntil)=true:=by simpa using h
   refine Tot.mono (P':=fun e=>e=exV cs t s) ?_ fun e he=>by unfold whyV;rw [if_pos hp,if_pos ⟨of_decide_eq_true h.1,of_decide_eq_true h.2⟩];exact he
   refine Tot.bindOf htr ?_
   refine Tot.bindRng cs.length (fun k (e:Int)=>(e,((k:Nat):Int))) (fun k e=>exS cs t s k=some e) (fun x=>match x with | .inl _=>exS cs t s cs.length=none | .inr e=>exS cs t s cs.length=some e) 11 rfl rfl (fun k e hk hb => ?_) (fun e hb => ?_) (fun x hx => ?_)
   ·have hw:w64 ((k:Int)+1)=((k+1:Nat):Int):=by rw [w64_id (by omega) (by omega)];rfl
    have hkt:k<t.length:=by omega
    have hcs:cs[k]? = some cs[k]:=List.getElem?_eq_getElem hk
    have htk:t[k]? = some t[k]:=List.getElem?_eq_getElem hkt
    unfold xref22_Explain_L0
    refine Tot.iteT (by simpa using hk) (Tot.jnR (fun m:Int=>exS cs t s (k+1)=some m) (fun j hj=>Tot.bindIdx k rfl hk (Tot.ite (fun h=>hj _ ?_) (fun h=>Tot.bindIdx k rfl hkt (Tot.ite (fun h3 => ?_) (fun h3 => ?_))))) (fun m hm=>Tot.step m (by rw [hw]) hm))
    ·simp only [exS,hb,hcs,htk]
     rw [if_neg (bne_iff_ne.1 h)]
    ·have hkey:cs[k].fKey=s.fKey:=bne_eq_false_iff_eq.1 h
     have h3:t[k]=false:=by simpa using h3
     refine Tot.jnR (fun m:Int=>exS cs t s (k+1)=some m) (fun j2 hj2=>Tot.ite (fun h4=>hj2 _ ?_) (fun h4=>hj2 _ ?_)) (fun m hm=>hj _ hm)
     ·simp only [exS,hb,hcs,htk,h3]
      rw [if_pos hkey,if_neg (by simp),if_pos (beq_iff_eq.1 h4)]
     ·simp only [exS,hb,hcs,htk,h3]
      rw [if_pos hkey,if_neg (by simp),if_neg (beq_eq_false_iff_ne.1 h4)]
    ·have hkey:cs[k].fKey=s.fKey:=bne_eq_false_iff_eq.1 h
     have h3:t[k]=true:=by simpa using h3
     refine Tot.bindT (rhold_tot (hf k _ (by rw [htk,h3]) hcs) hs (fun o hom=>(hp.o o hom).v)) fun b hb2=>Tot.ite (fun h4=>Tot.stop (exS_none (k:=k+1) ?_ _ (by omega))) (fun h4=>hj _ ?_)
     ·have hh:HoldP cs[k].fResources s:=hb2.1 h4
      simp only [exS,hb,hcs,htk,h3]
      rw [if_pos hkey,if_pos trivial,if_pos hh]
     ·have hnh:¬ HoldP cs[k].fResources s:=fun g=>by rw [hb2.2 g] at h4;cases h4
      simp only [exS,hb,hcs,htk,h3]
      rw [if_pos hkey,if_pos trivial,if_neg hnh]
   ·unfold xref22_Explain_L0
    exact Tot.iteF (by simp) (Tot.last hb)
   ·cases x with
    | inl _=>exact Tot.some (by unfold exV;simp only at hx;rw [hx])
    | inr e=>exact Tot.some (by unfold exV;simp only at hx;rw [hx])
end
-- objects in order
theorem dd_sub {α:Type} [DecidableEq α]:∀ l:List α,(dd l).Sublist l:=by
 refine snoc_ind (List.Sublist.refl _) ?_
 intro l y ih
 rw [dd_snoc]
 split
 ·exact ih.trans (List.sublist_append_left _ _)
 ·exact ih.append (List.Sublist.refl _)
theorem oLt_asym {x y:aObject} (hx:aR x.fPrefix.fAddr) (hy:aR y.fPrefix.fAddr) (h:oLt x y) (k:oLt y x):False:=oLt_irr x (oLt_trans hx hy hx h k)
def oS (l:List aObject):Prop:=l.Pairwise fun a b=>aR a.fPrefix.fAddr∧aR b.fPrefix.fAddr∧oLt a b
theorem oS_uniq {l m:List aObject} (hl:oS l) (hm:oS m) (h:∀ o,o∈l↔o∈m):l=m :=
 sorted_unique (fun x y h1 h2=>oLt_asym h1.1 h1.2.1 h1.2.2 h2.2.2) hl hm h
theorem order_tot {l:List aObject} (ho:∀ o∈l,aR o.fPrefix.fAddr) (hl:l.length≤1000000):Tot (irr_Ordered l) (fun r=>(∀ o,o∈r↔o∈l)∧oS r∧r.length≤l.length):=by
 unfold irr_Ordered
 refine Tot.bindOf (show ext73_slices_Clone_R l=some l from chk_of (limB (by omega)) rfl) ?_
 have hz:∀ x y:aObject,∃ z:Int,(aR x.fPrefix.fAddr→aR y.fPrefix.fAddr→irr_Compare x y=some z∧(z<0↔oLt x y)):=fun x y=>by
  by_cases h:aR x.fPrefix.fAddr∧aR y.fPrefix.fAddr
  ·obtain⟨z,e⟩:=compare_obj h.1 h.2
   exact⟨z,fun _ _=>e⟩
  ·exact⟨0,fun a b=>(h ⟨a,b⟩).elim⟩
 have kk:∃ k:aObject→aObject→Int,∀ x y,aR x.fPrefix.fAddr→aR y.fPrefix.fAddr→irr_Compare x y=some (k x y)∧(k x y<0↔oLt x y) :=
  ⟨fun x y=>Classical.choose (hz x y),fun x y=>Classical.choose_spec (hz x y)⟩
 obtain⟨k,hk⟩:=kk
 obtain⟨s,e,s1,s2⟩:=sortF_tot (xs:=l) (cmp:=fun x y=>irr_Compare x y) k (fun x hx y hy=>(hk x y (ho x hx) (ho y hy)).1)
  (fun x hx=>by rw [(hk x x (ho x hx) (ho x hx)).2];exact oLt_irr x)
  (fun x hx y hy z hz=>by rw [(hk x y (ho x hx) (ho y hy)).2,(hk y z (ho y hy) (ho z hz)).2,(hk x z (ho x hx) (ho z hz)).2];exact oLt_trans (ho x hx) (ho y hy) (ho z hz))
  (fun x hx y hy z hz=>by
   rw [(hk x y (ho x hx) (ho y hy)).2,(hk y z (ho y hy) (ho z hz)).2,(hk x z (ho x hx) (ho z hz)).2]
   intro h1 h2 h3
   by_cases c:oLt y x
   ·exact h2 (oLt_trans (ho y hy) (ho x hx) (ho z hz) c h3)
   ·rw [oLt_tri (ho x hx) (ho y hy) h1 c] at h3
    exact h2 h3) (by omega)
 have hsl:=s1.length_eq
 have sr:∀ x∈s,aR x.fPrefix.fAddr:=fun x hx=>ho x (s1.mem_iff.1 hx)
 refine Tot.bindOf (show ext74_slices_SortFunc_irr_Compare l=some s from e) (Tot.chk (by simp [hsl]) (Tot.bindOf (compact_eq (by omega)) (Tot.some ⟨fun o=>(dd_mem s o).trans s1.mem_iff,?_,by have:=dd_len s;omega⟩)))
 have sp:s.Pairwise fun a b=>(aR a.fPrefix.fAddr∧aR b.fPrefix.fAddr)∧¬ oLt b a:=s2.imp_of_mem fun {a b} ha hb h=>⟨⟨sr a ha,sr b hb⟩,by rw [(hk b a (sr b hb) (sr a ha)).2] at h;exact h⟩
 have hnd:(dd s).Nodup:=by
  refine dd_nodup (fun x y z h1 h2=>⟨⟨h1.1.1,h2.1.2⟩,fun c => ?_⟩) (fun x y h1 h2=>oLt_tri h1.1.1 h1.1.2 h2.2 h1.2) s sp
  by_cases g:oLt y x
  ·exact h1.2 g
  ·by_cases g2:oLt x y
   ·exact h2.2 (oLt_trans h2.1.2 h1.1.1 h1.1.2 c g2)
   ·rw [oLt_tri h1.1.1 h1.1.2 g2 g] at c
    exact h2.2 c
 have hp:=List.Pairwise.sublist (dd_sub s) sp
 refine List.Pairwise.imp₂ (R:=fun a b=>(aR a.fPrefix.fAddr∧aR b.fPrefix.fAddr)∧¬ oLt b a) (S:=fun a b=>a≠b) (fun a b h1 h2=>⟨h1.1.1,h1.1.2,?_⟩) hp hnd
 by_cases g:oLt a b
 ·exact g
 ·exact(h2 (oLt_tri h1.1.1 h1.1.2 g h1.2)).elim
theorem rcmp_obj {x y:aObject} (hx:aR x.fPrefix.fAddr) (hy:aR y.fPrefix.fAddr):Tot (xref20_Cmp x y) (fun z=>z<0↔oLt x y):=by
 unfold xref20_Cmp
 have c0:=cmpP_lt x.fPrefix y.fPrefix
 have c1:=cmpP_zero hx hy
 unfold oLt
 rw [← c0,← c1]
 refine Tot.bindOf (rpcmp_eq hx hy) ?_
 generalize cmpP x.fPrefix y.fPrefix=a
 refine Tot.ite (fun h=>Tot.some ?_) (fun h => ?_)
 ·have h:a≠0:=bne_iff_ne.1 h
  omega
 ·have h:a=0:=bne_eq_false_iff_eq.1 h
  refine Tot.jnR (fun m:Bool=>m=true↔(x.fMax<y.fMax∨(x.fMax=y.fMax∧x.fASN<y.fASN))) (fun j hj=>Tot.ite (fun h2=>hj _ ⟨fun _ => .inl (of_decide_eq_true h2),fun _=>rfl⟩) (fun h2=>hj _ ?_)) (fun m hm=>Tot.ite (fun h2=>Tot.some ?_) (fun h2=>Tot.ite (fun _=>Tot.some ?_) (fun _=>Tot.some ?_)))
  ·have h2:=of_decide_eq_false h2
   simp only [Bool.and_eq_true,beq_iff_eq,decide_eq_true_eq]
   omega
  ·have:=hm.1 h2
   omega
  ·have:¬ (x.fMax<y.fMax∨(x.fMax=y.fMax∧x.fASN<y.fASN)):=fun g=>by rw [hm.2 g] at h2;cases h2
   omega
  ·have:¬ (x.fMax<y.fMax∨(x.fMax=y.fMax∧x.fASN<y.fASN)):=fun g=>by rw [hm.2 g] at h2;cases h2
   omega
theorem oplace_tot {l:List aObject} (hl:l.length≤1000000) (hs:∀ o∈l,aR o.fPrefix.fAddr) {x:aObject} (hx:aR x.fPrefix.fAddr) (i:Int) :
  Tot (loop (xref20_Sorted_L1 (i,l) x) (0:Int)) (fun p=>∃ n:Nat,p=n∧n≤l.length∧(∀ o∈l.take n,oLt o x)∧∀ h:n<l.length,¬ oLt l[n] x):=by
 refine Tot.loop (fun s:Int=>∃ n:Nat,s=n∧n≤l.length∧∀ o∈l.take n,oLt o x) (fun s:Int=>l.length-s.toNat) _ (fun s hI => ?_) ⟨0,rfl,by omega,by simp⟩
 obtain⟨n,rfl,h1,h2⟩:=hI
 have hw:w64 ((n:Int)+1)=((n+1:Nat):Int):=by rw [w64_id (by omega) (by omega)];rfl
 unfold xref20_Sorted_L1
 refine Tot.jnR (fun m:Bool=>m=true↔∃ h:n<l.length,oLt l[n] x) (fun j hj=>Tot.ite (fun h => ?_) (fun h=>hj _ ⟨fun e=>(by cases e),fun⟨g,_⟩=>(by have:=of_decide_eq_false h;simp only at this;omega)⟩)) (fun m hm=>Tot.ite (fun h=>Tot.next ⟨n+1,hw,?_,?_⟩ ?_) (fun h=>Tot.out ⟨n,rfl,h1,h2,fun g c => ?_⟩))
 ·have hn:n<l.length:=by have:=of_decide_eq_true h;simp only at this;omega
  refine Tot.bindIdx n rfl hn (Tot.bindIdx n rfl hn (Tot.bindT (rcmp_obj (hs _ (List.getElem_mem hn)) hx) fun z hz=>hj _ ?_))
  rw [decide_eq_true_iff,hz]
  exact⟨fun g=>⟨hn,g⟩,fun⟨_,g⟩=>g⟩
 ·obtain⟨g,_⟩:=hm.1 h
  omega
 ·obtain⟨g,g2⟩:=hm.1 h
  intro o ho
  rw [take_snoc g] at ho
  rcases List.mem_append.1 ho with ho | ho
  ·exact h2 o ho
  ·rw [List.mem_singleton.1 ho];exact g2
 ·obtain⟨g,_⟩:=hm.1 h
  rw [hw]
  simp only [Int.toNat_natCast]
  omega
 ·rw [hm.2 ⟨g,c⟩] at h
  cases h
theorem rsorted_tot {l:List aObject} (ho:∀ o∈l,aR o.fPrefix.fAddr) (hl:l.length≤100000):Tot (xref20_Sorted l) (fun r=>(∀ o,o∈r↔o∈l)∧oS r):=by
 unfold xref20_Sorted
 refine Tot.bindRng l.length (fun k (r:List aObject)=>(((k:Nat):Int),r)) (fun k r=>(∀ o,o∈r↔o∈l.take k)∧oS r∧r.length≤k) (fun r=>(∀ o,o∈r↔o∈l)∧oS r) [] rfl ⟨fun o=>by simp,List.Pairwise.nil,Nat.le_refl _⟩ (fun k r hk hb => ?_) (fun r hb => ?_) (fun r hr=>Tot.some hr)
 ·obtain⟨b1,b2,b3⟩:=hb
  have hw:w64 ((k:Int)+1)=((k+1:Nat):Int):=by rw [w64_id (by omega) (by omega)];rfl
  have hR:∀ o∈r,aR o.fPrefix.fAddr:=fun o h=>ho o (List.mem_of_mem_take ((b1 o).1 h))
  have hx:=ho _ (List.getElem_mem hk)
  have mem:∀ r':List aObject,(∀ o,o∈r'↔o∈r∨o=l[k])→∀ o,o∈r'↔o∈l.take (k+1):=fun r' h o=>by
   rw [h,b1,take_snoc hk,List.mem_append,List.mem_singleton]
  unfold xref20_Sorted_L0
  refine Tot.iteT (by simpa using hk) (Tot.jnR (fun m:List aObject=>(∀ o,o∈m↔o∈l.take (k+1))∧oS m∧m.length≤k+1) (fun j hj=>Tot.bindIdx k rfl hk (Tot.bindT (oplace_tot (by omega) hR hx _) ?_)) (fun m hm=>Tot.step m (by rw [hw]) hm))
  rintro _ ⟨n,rfl,n1,n2,n3⟩
  refine Tot.jnR (fun m:Bool=>m=true↔∃ h:n<r.length,r[n]=l[k]) (fun j2 hj2=>Tot.ite (fun h => ?_) (fun h=>hj2 _ ⟨fun e=>(by cases e),fun⟨g,_⟩=>(by have:=of_decide_eq_false h;simp only at this;omega)⟩)) (fun m hm=>Tot.ite (fun h=>hj _ ?_) (fun h => ?_))
  ·have hn:n<r.length:=by have:=of_decide_eq_true h;simp only at this;omega
   refine Tot.bindIdx n rfl hn (Tot.bindIdx n rfl hn (hj2 _ ?_))
   have:=oeq_iff (a:=r[n]) (b:=l[k])
   unfold oeq at this
   rw [this]
   exact⟨fun g=>⟨hn,g⟩,fun⟨_,g⟩=>g⟩
  ·obtain⟨g1,g2⟩:=hm.1 h
   refine⟨mem r fun o=>⟨.inl,fun e=>e.elim id fun e => ?_⟩,b2,by simp only;omega⟩
   rw [e,← g2]
   exact List.getElem_mem g1
  ·have e1:(r.take n).drop 0=r.take n:=rfl
   have e2:(r.take r.length).drop n=r.drop n:=by rw [List.take_length]
   have hlen:(r.take n++[l[k]]++r.drop n).length=r.length+1:=by simp only [List.length_append,List.length_take,List.length_drop,List.length_singleton];omega
   simp only [Int.toNat_natCast,e1,e2]
   have c1:(decide (0≤(n:Int))&&decide (0≤n)&&decide (n≤r.length))=true:=by simp only [Bool.and_eq_true,decide_eq_true_eq];omega
   have c2:(decide (0≤(n:Int))&&decide (n≤r.length)&&decide (r.length≤r.length))=true:=by simp only [Bool.and_eq_true,decide_eq_true_eq];omega
   refine Tot.chk c1 (Tot.chk (limB (by rw [List.length_take];omega)) (Tot.chk (limB (by rw [List.length_append,List.length_take,List.length_singleton];omega)) (Tot.chk c2 (Tot.chk (limB (by rw [hlen];omega)) (hj _ ⟨mem _ fun o => ?_,?_,by rw [hlen];omega⟩)))))
   ·rw [List.mem_append,List.mem_append,List.mem_singleton]
    constructor
    ·rintro((g | g) | g)
     ·exact .inl (List.mem_of_mem_take g)
     ·exact .inr g
     ·exact .inl (List.mem_of_mem_drop g)
    ·rintro(g | g)
     ·rw [← List.take_append_drop n r] at g
      rcases List.mem_append.1 g with g | g
      ·exact .inl (.inl g)
      ·exact .inr g
     ·exact .inl (.inr g)
   ·
    have hd:r.take n++r.drop n=r:=List.take_append_drop n r
    have b2':=b2
    unfold oS at b2'
    rw [← hd] at b2'
    obtain⟨p1,p2,p3⟩:=List.pairwise_append.1 b2'
    have hxl:∀ b∈r.drop n,oLt l[k] b:=fun b hb=>by
     -- the one at n is not below x and is not x
     have hn:n<r.length:=by
      rcases Nat.lt_or_ge n r.length with g | g
      ·exact g
      ·rw [List.drop_eq_nil_of_le g] at hb;cases hb
     have hnn:=n3 hn
     have hne:¬ r[n]=l[k]:=fun e=>by rw [hm.2 ⟨hn,e⟩] at h;cases h
     have hRn:=hR _ (List.getElem_mem hn)
     have hlt:oLt l[k] r[n]:=by
      by_cases g:oLt l[k] r[n]
      ·exact g
      ·exact(hne (oLt_tri hRn hx hnn g)).elim
     rw [List.drop_eq_getElem_cons hn] at hb p2
     rcases List.mem_cons.1 hb with e | e
     ·rw [e];exact hlt
     ·have:=(List.pairwise_cons.1 p2).1 b e
      exact oLt_trans hx hRn this.2.1 hlt this.2.2
    unfold oS
    rw [List.append_assoc]
    refine List.pairwise_append.2 ⟨p1,?_,fun a ha b hb => ?_⟩
    ·exact List.pairwise_cons.2 ⟨fun b hb=>⟨hx,hR b (List.mem_of_mem_drop hb),hxl b hb⟩,p2⟩
    ·rcases List.mem_cons.1 hb with e | e
     ·rw [e];exact⟨hR a (List.mem_of_mem_take ha),hx,n2 a ha⟩
     ·exact p3 a ha b e
 ·obtain⟨b1,b2,b3⟩:=hb
  unfold xref20_Sorted_L0
  refine Tot.iteF (by simp) (Tot.last ⟨fun o => ?_,b2⟩)
  rw [b1,List.take_length]
-- payloads
def SgR (l:List aSigned):Prop:=∀ s∈l,(∀ o∈s.fObjects,aR o.fPrefix.fAddr)∧s.fObjects.length≤20
open Classical in
noncomputable def catS (cs:List aCert) (t:List Bool) (now:Int) (ss:List aSigned):List aObject:=ss.flatMap fun s=>if whyV cs t s now=0 then s.fObjects else []
section
variable {cs:List aCert} {t:List Bool} {now:Int} {ss:List aSigned}
theorem cat_snoc (s:aSigned):catS cs t now (ss++[s])=catS cs t now ss++(if whyV cs t s now=0 then s.fObjects else []):=by
 unfold catS
 rw [List.flatMap_append,List.flatMap_cons,List.flatMap_nil,List.append_nil]
theorem cat_len (hs:SgR ss):∀ k,k≤ss.length→(catS cs t now (ss.take k)).length≤20*k
 | 0,_=>by simp [catS]
 | k+1,hk=>by
  have:=cat_len hs k (by omega)
  have h2:=(hs _ (List.getElem_mem (show k<ss.length by omega))).2
  rw [take_snoc (show k<ss.length by omega),cat_snoc,List.length_append]
  split
  ·omega
  ·simp only [List.length_nil];omega
theorem cat_R (hs:SgR ss):∀ o∈catS cs t now ss,aR o.fPrefix.fAddr:=fun o ho=>by
 unfold catS at ho
 obtain⟨s,h1,h2⟩:=List.mem_flatMap.1 ho
 split at h2
 ·exact(hs s h1).1 o h2
 ·cases h2
end
theorem pay_both {cs:List aCert} {an:List Int} {now:Int} {t:List Bool} (hl:cs.length≤500) (ht:t.length=cs.length) (hf:∀ (i:Nat) (c:aCert),t[i]? = some true→cs[i]? = some c→VRes c.fResources) (e1:origin_Trusted cs an now=some t) (e2:xref22_Trusted cs an now=some t) {ss:List aSigned} (hs:SgR ss) (hn:ss.length≤20) :
  ∃ r:List aObject,origin_Payloads cs ss an now=some (r,0)∧xref22_Payloads cs ss an now=some (r,0)∧r.length≤400:=by
 have hcl:(catS cs t now ss).length≤400:=by
  have:=cat_len (cs:=cs) (t:=t) (now:=now) hs ss.length (Nat.le_refl _)
  rw [List.take_length] at this
  omega
 have one:Tot (origin_Payloads cs ss an now) (fun x=>x.2=0∧(∀ o,o∈x.1↔o∈catS cs t now ss)∧oS x.1∧x.1.length≤400):=by
  unfold origin_Payloads
  refine Tot.iteF (by rw [Bool.or_eq_false_iff];exact⟨decide_eq_false (by omega),decide_eq_false (by omega)⟩) (Tot.bindOf e1 ?_)
  refine Tot.bindRng ss.length (fun k (l:List aObject)=>(((k:Nat):Int),l)) (fun k l=>l=catS cs t now (ss.take k)) (fun l=>l=catS cs t now ss) [] rfl rfl (fun k l hk hb => ?_) (fun l hb => ?_) (fun l hl2 => ?_)
  ·have hw:w64 ((k:Int)+1)=((k+1:Nat):Int):=by rw [w64_id (by omega) (by omega)];rfl
   obtain⟨g1,g2⟩:=hs _ (List.getElem_mem hk)
   have:=cat_len (cs:=cs) (t:=t) (now:=now) hs k (by omega)
   unfold origin_Payloads_L0
   refine Tot.iteT (by simpa using hk) (Tot.bindIdx k rfl hk (Tot.bindOf (explain_eq (by omega) ht hf g1) ?_))
   refine Tot.jnR (fun m:List aObject=>m=catS cs t now (ss.take (k+1))) (fun j hj=>Tot.ite (fun h => ?_) (fun h=>hj _ ?_)) (fun m hm=>Tot.step m (by rw [hw]) hm)
   ·refine Tot.chk (limB (by simp only [List.length_append,hb];omega)) (hj _ ?_)
    rw [take_snoc hk,cat_snoc,if_pos (beq_iff_eq.1 h),hb]
   ·rw [take_snoc hk,cat_snoc,if_neg (beq_eq_false_iff_ne.1 h),hb,List.append_nil]
  ·unfold origin_Payloads_L0
   refine Tot.iteF (by simp) (Tot.last ?_)
   rw [List.take_length] at hb
   exact hb
  ·subst hl2
   refine Tot.bindT (order_tot (cat_R hs) (by omega)) fun r hr=>Tot.iteF (decide_eq_false (by have:=hr.2.2;omega)) (Tot.some ⟨rfl,hr.1,hr.2.1,by have:=hr.2.2;simp only;omega⟩)
 obtain⟨⟨r,z⟩,er,r1,r2,r3,r4⟩:=one
 simp only at r1 r2 r3 r4
 subst r1
 refine⟨r,er,Tot.eq ?_,r4⟩
 unfold xref22_Payloads
 refine Tot.iteF (by rw [Bool.or_eq_false_iff];exact⟨decide_eq_false (by omega),decide_eq_false (by omega)⟩) ?_
 refine Tot.bindRng ss.length (fun k (l:List aObject)=>(((k:Nat):Int),l)) (fun k l=>l=catS cs t now (ss.take k)) (fun l=>l=catS cs t now ss) [] rfl rfl (fun k l hk hb => ?_) (fun l hb => ?_) (fun l hl2 => ?_)
 ·have hw:w64 ((k:Int)+1)=((k+1:Nat):Int):=by rw [w64_id (by omega) (by omega)];rfl
  obtain⟨g1,g2⟩:=hs _ (List.getElem_mem hk)
  have:=cat_len (cs:=cs) (t:=t) (now:=now) hs k (by omega)
  unfold xref22_Payloads_L0
  refine Tot.iteT (by simpa using hk) (Tot.bindIdx k rfl hk (Tot.bindOf (rexplain_eq (by omega) ht hf (by omega) g1 e2) ?_))
  refine Tot.jnR (fun m:List aObject=>m=catS cs t now (ss.take (k+1))) (fun j hj=>Tot.ite (fun h => ?_) (fun h=>hj _ ?_)) (fun m hm=>Tot.step m (by rw [hw]) hm)
  ·refine Tot.chk (limB (by simp only [List.length_append,hb];omega)) (hj _ ?_)
   rw [take_snoc hk,cat_snoc,if_pos (beq_iff_eq.1 h),hb]
  ·rw [take_snoc hk,cat_snoc,if_neg (beq_eq_false_iff_ne.1 h),hb,List.append_nil]
 ·unfold xref22_Payloads_L0
  refine Tot.iteF (by simp) (Tot.last ?_)
  rw [List.take_length] at hb
  exact hb
 ·subst hl2
  refine Tot.bindT (rsorted_tot (cat_R hs) (by omega)) fun q hq => ?_
  have:q=r:=oS_uniq hq.2 r3 fun o=>(hq.1 o).trans (r2 o).symm
  subst this
  exact Tot.iteF (decide_eq_false (by omega)) (Tot.some rfl)
theorem sameO (l:List aObject) (hl:l.length≤1000000):xref20_SameObjects l l=some true:=by
 refine Tot.eq ?_
 unfold xref20_SameObjects
 refine Tot.iteF (by simp) (Tot.bindRng l.length (fun k (_:Unit)=>((k:Nat):Int)) (fun _ _=>True) (fun x=>x = .inr ()) () rfl trivial (fun k _ hk _ => ?_) (fun _ _ => ?_) ?_)
 ·have hw:w64 ((k:Int)+1)=((k+1:Nat):Int):=by rw [w64_id (by omega) (by omega)];rfl
  unfold xref20_SameObjects_L0
  exact Tot.iteT (by simpa using hk) (Tot.bindIdx k rfl hk (Tot.bindIdx k rfl hk (Tot.iteF (by simp) (Tot.step () (by rw [hw]) trivial))))
 ·unfold xref20_SameObjects_L0
  exact Tot.iteF (by simp) (Tot.last rfl)
 ·rintro _ rfl
  exact Tot.some rfl
section
variable {a2:Int} {r:List aCert×List aSigned×Int×xmake_Deck} {ss:List aSigned}
theorem ep_L2 (hc:CsOk r.1) (hl:r.1.length≤500) (hs:SgR ss) (hn:ss.length≤20):Tot (loop (xlaw22_OriginPayloads_L2 a2 r ss) (0:Int)) (fun x=>x = .inr ()):=by
 obtain⟨an,ean,han⟩:=anchors_tot a2
 obtain⟨t,e1,e2,h1,h2⟩:=trust_both (now:=r.2.2.1) (cs_raw hc) (show r.1.length≤1000000 by omega) (an:=an) (by omega)
 have hf:∀ (i:Nat) (c:aCert),t[i]? = some true→r.1[i]? = some c→VRes c.fResources:=fun i c _ h=>(hc c (List.mem_of_getElem? h)).1
 refine Tot.rng ss.length (fun k (_:Unit)=>((k:Nat):Int)) (fun _ _=>True) _ () rfl trivial (fun k _ hk _ => ?_) (fun _ _ => ?_)
 ·have hw:w64 ((k:Int)+1)=((k+1:Nat):Int):=by rw [w64_id (by omega) (by omega)];rfl
  obtain⟨g1,g2⟩:=hs _ (List.getElem_mem hk)
  have ee:origin_Explain r.1 an ss[k] r.2.2.1=some (whyV r.1 t ss[k] r.2.2.1):=by
   unfold origin_Explain
   exact bind_of e1 (bind_of (explain_eq (by omega) h1 hf g1) rfl)
  unfold xlaw22_OriginPayloads_L2
  exact Tot.iteT (by simpa using hk) (Tot.bindIdx k rfl hk (Tot.bindOf ean (Tot.bindOf ee (Tot.bindOf ean (Tot.bindOf (rexplain_eq (by omega) h1 hf (by omega) g1 e2) (Tot.iteF (by simp) (Tot.step () (by rw [hw]) trivial)))))))
 ·unfold xlaw22_OriginPayloads_L2
  exact Tot.iteF (by simp) (Tot.last rfl)
theorem ep_L1 {a0:List aSigned} (hc:CsOk r.1) (hl:r.1.length≤500) (h0:SgR a0) (n0:a0.length≤20) (hs:SgR ss) (hn:ss.length≤20):Tot (loop (xlaw22_OriginPayloads_L1 a0 a2 r ss) (0:Int)) (fun x=>x = .inr ()):=by
 obtain⟨an,ean,han⟩:=anchors_tot a2
 obtain⟨t,e1,e2,h1,h2⟩:=trust_both (now:=r.2.2.1) (cs_raw hc) (show r.1.length≤1000000 by omega) (an:=an) (by omega)
 have hf:∀ (i:Nat) (c:aCert),t[i]? = some true→r.1[i]? = some c→VRes c.fResources:=fun i c _ h=>(hc c (List.mem_of_getElem? h)).1
 have hall:∀ l∈[a0,ss],SgR l∧l.length≤20:=fun l hl=>by
  simp only [List.mem_cons,List.not_mem_nil,or_false] at hl
  rcases hl with rfl | rfl
  ·exact⟨h0,n0⟩
  ·exact⟨hs,hn⟩
 refine Tot.rng 2 (fun k (_:Unit)=>((k:Nat):Int)) (fun _ _=>True) _ () rfl trivial (fun k _ hk _ => ?_) (fun _ _ => ?_)
 ·have hw:w64 ((k:Int)+1)=((k+1:Nat):Int):=by rw [w64_id (by omega) (by omega)];rfl
  obtain⟨q1,q2⟩:=hall _ (List.getElem_mem (show k < [a0,ss].length from hk))
  obtain⟨p,p1,p2,p3⟩:=pay_both hl h1 hf e1 e2 q1 q2
  unfold xlaw22_OriginPayloads_L1
  refine Tot.iteT (decide_eq_true (show(k:Int)<2 by omega)) (Tot.bindIdx k rfl hk (Tot.bindOf ean (Tot.bindOf p1 (Tot.bindOf ean (Tot.bindOf p2 (Tot.bindOf (sameO p (by omega)) (Tot.iteF rfl (Tot.bindT (ep_L2 hc hl q1 q2) ?_))))))))
  rintro _ rfl
  exact Tot.step () (by rw [hw]) trivial
 ·unfold xlaw22_OriginPayloads_L1
  exact Tot.iteF rfl (Tot.last rfl)
end
def hP (x:aPrefix):Prop:=hA x.fAddr∧I64 x.fLen∧True
def hO (x:aObject):Prop:=hP x.fPrefix∧I64 x.fMax∧I64 x.fASN∧True
def hG2 (x:aSigned):Prop:=I64 x.fKey∧I64 x.fASN∧I64 x.fFrom∧I64 x.fUntil∧((∀ y∈x.fObjects,hO y)∧x.fObjects.length≤maxLen)∧True
theorem zero_R:aR (aAddr.mk false 0 0):=⟨⟨by decide,by decide⟩,by decide,by decide⟩
theorem payloads_law (a0:List aSigned) (h0:(∀ y∈a0,hG2 y)∧a0.length≤maxLen) (a1:List Int) (h1:(∀ y∈a1,I64 y)∧a1.length≤maxLen) (a2:Int) (_:I64 a2) (a3:Int) (_:I64 a3):xlaw22_OriginPayloads a0 a1 a2 a3=some true:=by
 refine Tot.eq ?_
 unfold maxLen at h1
 unfold xlaw22_OriginPayloads
 refine Tot.ite (fun _=>Tot.bindOf awake_eq (Tot.some rfl)) (fun h => ?_)
 have hn:a0.length≤20:=by have:=of_decide_eq_false h;omega
 refine Tot.bindRng a0.length (fun k (_:Unit)=>((k:Nat):Int)) (fun k _=>∀ s∈a0.take k,s.fObjects.length≤20) (fun x=>match x with | .inl b=>b=true | .inr _=>∀ s∈a0,s.fObjects.length≤20) () rfl (by simp) (fun k b hk hb => ?_) (fun b hb => ?_) (fun x hx => ?_)
 ·have hw:w64 ((k:Int)+1)=((k+1:Nat):Int):=by rw [w64_id (by omega) (by omega)];rfl
  unfold xlaw22_OriginPayloads_L0
  refine Tot.iteT (by simpa using hk) (Tot.bindIdx k rfl hk (Tot.ite (fun _=>Tot.bindOf awake_eq (Tot.stop rfl)) (fun h=>Tot.step () (by rw [hw]) fun s hs => ?_)))
  rw [take_snoc hk] at hs
  rcases List.mem_append.1 hs with hs | hs
  ·exact hb s hs
  ·rw [List.mem_singleton.1 hs]
   have:=of_decide_eq_false h
   omega
 ·unfold xlaw22_OriginPayloads_L0
  refine Tot.iteF (by simp) (Tot.last ?_)
  rw [List.take_length] at hb
  exact hb
 ·cases x with
  | inl b=>exact Tot.some hx
  | inr _ =>
   have hR:SgR a0:=fun s hs=>⟨fun o ho=>hA_R ((h0.1 s hs).2.2.2.2.1.1 o ho).1.1,hx s hs⟩
   refine Tot.bindOf (show xmake_New a1=some ⟨a1,0⟩ from rfl) (Tot.bindT (setting_tot _ (new_ok a1 (by omega))) fun r hr => ?_)
   obtain⟨⟨c1,c2⟩,⟨s1,s2⟩,_,_⟩:=hr
   have hS:SgR r.2.1:=fun s hs=>⟨fun o ho=>((s1 s hs).1 o ho).addr.1,by have:=(s1 s hs).2;omega⟩
   refine Tot.jnR (fun m:List aSigned=>SgR m∧m.length≤20) (fun j hj=>Tot.ite (fun h => ?_) (fun h=>hj _ ⟨hS,by omega⟩)) (fun m hm=>Tot.bindT (ep_L1 c1 (by omega) hR hn hm.1 hm.2) ?_)
   ·have hpos:(0:Int)<(r.2.1.length:Int):=of_decide_eq_true h
    obtain⟨m1,m2⟩:=emod_lt' a3 hpos
    obtain⟨k,hk⟩:∃ k:Nat,a3 % (r.2.1.length:Int)=k:=⟨(a3 % (r.2.1.length:Int)).toNat,by omega⟩
    have hkl:k<r.2.1.length:=by omega
    obtain⟨g1,g2⟩:=s1 _ (List.getElem_mem hkl)
    have gR:∀ o∈r.2.1[k].fObjects,aR o.fPrefix.fAddr:=fun o ho=>(g1 o ho).addr.1
    refine Tot.bindOf (mod_eq a3 _ hpos (by omega)) ?_
    rw [hk]
    refine Tot.bindIdx k rfl hkl (Tot.bindIdx k rfl hkl (Tot.bindOf (mod_eq a3 6 (by decide) (by decide)) ?_))
    refine Tot.jnR (fun m:aSigned=>(∀ o∈m.fObjects,aR o.fPrefix.fAddr)∧m.fObjects.length≤4) (fun j2 hj2=>Tot.ite (fun h => ?_) (fun h=>Tot.ite (fun h=>hj2 _ ⟨gR,by simp only;omega⟩) (fun h=>Tot.ite (fun h => ?_) (fun h=>Tot.ite (fun h => ?_) (fun h=>hj2 _ ⟨gR,by omega⟩))))) (fun m hm => ?_)
    ·obtain⟨z1,z2⟩:=emod_lt' a2 (show(0:Int)<2 by decide)
     obtain⟨q,hq⟩:∃ q:Nat,a2 % 2=q:=⟨(a2 % 2).toNat,by omega⟩
     refine Tot.bindOf (mod_eq a2 2 (by decide) (by decide)) ?_
     rw [hq]
     exact Tot.bindIdx q rfl (show q<2 by omega) (hj2 _ ⟨gR,by simp only;omega⟩)
    ·refine Tot.chk (limB (by omega)) (Tot.chk (limB (by rw [List.length_append,List.length_singleton];omega)) (hj2 _ ⟨fun o ho => ?_,by simp only;rw [List.length_append,List.length_singleton];omega⟩))
     rcases List.mem_append.1 ho with ho | ho
     ·exact gR o ho
     ·rw [List.mem_singleton.1 ho];exact zero_R
    ·refine Tot.chk (limB (by omega)) (Tot.chk (limB (by rw [List.length_append,List.length_singleton];omega)) (hj2 _ ⟨fun o ho => ?_,by simp only;rw [List.length_append,List.length_singleton];omega⟩))
     rcases List.mem_append.1 ho with ho | ho
     ·exact gR o ho
     ·rw [List.mem_singleton.1 ho];exact zero_R
    ·refine Tot.chk (limB (by rw [List.length_append,List.length_singleton];omega)) (hj _ ⟨fun s hs => ?_,by rw [List.length_append,List.length_singleton];omega⟩)
     rcases List.mem_append.1 hs with hs | hs
     ·exact hS s hs
     ·rw [List.mem_singleton.1 hs];exact⟨hm.1,by have:=hm.2;omega⟩
   ·rintro _ rfl
    exact Tot.bindOf awake_eq (Tot.some rfl)
end Go.Proofs.YtgfoabcickjphaaGreatDoor

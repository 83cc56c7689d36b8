/- Whom the document trusts, and that both sides trust the same, in plain Lean. -/
import Derived.Test.YtgfoabcickjphaaGreatDoorPureD
namespace Go.Proofs.YtgfoabcickjphaaGreatDoor
open Go Go.Vc
theorem rcov_tot {a b:aResources} (ha:VRes a) (hb:VRes b):Tot (xref21_Covers a b) (fun c=>c=true↔(∀ n,cA b n→cA a n)∧(∀ n,cS b n→cS a n)):=by
 unfold xref21_Covers
 obtain⟨_,e,A,S,h,rfl⟩:=rmin_tot hb ha
 refine Tot.bindOf e (Tot.some ?_)
 have k1:A.length=0↔∀ n,cA b n→cA a n:=by
  rw [map_nil_iff (f:=ivA),nil_iff h.va.1]
  constructor
  ·intro g n hn
   by_cases c:cA a n
   ·exact c
   ·exact(g n ((h.ia n).2 ⟨hn,c⟩)).elim
  ·intro g n hn
   obtain⟨g1,g2⟩:=(h.ia n).1 hn
   exact g2 (g n g1)
 have k2:S.length=0↔∀ n,cS b n→cS a n:=by
  rw [map_nil_iff (f:=ivS),nil_iff h.vs.1]
  constructor
  ·intro g n hn
   by_cases c:cS a n
   ·exact c
   ·exact(g n ((h.is n).2 ⟨hn,c⟩)).elim
  ·intro g n hn
   obtain⟨g1,g2⟩:=(h.is n).1 hn
   exact g2 (g n g1)
 rw [← k1,← k2]
 unfold LimF
 split
 ·constructor
  ·intro e;cases e
  ·rintro⟨e1,e2⟩;omega
 ·rw [Bool.and_eq_true,Bool.and_eq_true]
  exact⟨fun e=>⟨by have:=beq_iff_eq.1 e.1.2;simp only at this;omega,by have:=beq_iff_eq.1 e.2;simp only at this;omega⟩,fun e=>⟨⟨rfl,beq_iff_eq.2 (by simp only;have:=e.1;omega)⟩,beq_iff_eq.2 (by simp only;have:=e.2;omega)⟩⟩
theorem anchored_tot {l:List Int} {x:Int} (hl:l.length≤1000000000):Tot (xref22_anchored l x) (fun b=>b=true↔x∈l):=by
 unfold xref22_anchored
 refine Tot.bindRng l.length (fun k (_:Unit)=>((k:Nat):Int)) (fun k _=>¬ x∈l.take k) (fun y=>match y with | .inl _=>x∈l | .inr _=>¬ x∈l) () rfl (by simp) (fun k b hk hb => ?_) (fun b hb => ?_) (fun y hy => ?_)
 ·unfold xref22_anchored_L0
  have hw:w64 ((k:Int)+1)=((k+1:Nat):Int):=by rw [w64_id (by omega) (by omega)];rfl
  refine Tot.iteT (by simpa using hk) (Tot.bindIdx k rfl hk (Tot.ite (fun h=>Tot.stop ?_) (fun h=>Tot.step () (by rw [hw]) fun hm => ?_)))
  ·rw [← beq_iff_eq.1 h];exact List.getElem_mem hk
  ·rw [take_snoc hk] at hm
   rcases List.mem_append.1 hm with hm | hm
   ·exact hb hm
   ·exact(beq_eq_false_iff_ne.1 h) (List.mem_singleton.1 hm).symm
 ·unfold xref22_anchored_L0
  refine Tot.iteF (by simp) (Tot.last ?_)
  rw [List.take_length] at hb
  exact hb
 ·cases y with
  | inl _=>exact Tot.some ⟨fun _=>hy,fun _=>rfl⟩
  | inr _=>exact Tot.some ⟨fun e=>(by cases e),fun e=>(hy e).elim⟩
section
variable {cs:List aCert} {an:List Int} {now:Int}
theorem rtrust_L0 (hr:∀ c∈cs,Raw c.fResources) (hl:cs.length≤1000000) (ha:an.length≤1000000000) :
  Tot (loop (xref22_Trusted_L0 cs an now) ((0:Int),List.replicate cs.length false)) (fun p=>p.length=cs.length∧∀ i,p[i]? = some true↔Tr cs an now 0 i):=by
 refine Tot.rng cs.length (fun k (s:List Bool)=>(((k:Nat):Int),s)) (fun k p=>p.length=cs.length∧∀ i,i<k→(p[i]? = some true↔Tr cs an now 0 i)) _ (List.replicate cs.length false) rfl ⟨by simp,fun i h=>by omega⟩ (fun k s hk hs => ?_) (fun s hs => ?_)
 ·obtain⟨s2,s4⟩:=hs
  have hw:w64 ((k:Int)+1)=((k+1:Nat):Int):=by rw [w64_id (by omega) (by omega)];rfl
  have hk2:k<s.length:=by omega
  have hcs:cs[k]? = some cs[k]:=List.getElem?_eq_getElem hk
  have hraw:=hr _ (List.getElem_mem hk)
  unfold xref22_Trusted_L0
  refine Tot.iteT (by simpa using hk) (Tot.bindIdx k rfl hk (Tot.jnR (fun m:List Bool=>∃ b,m=s.set k b∧(b=true↔Tr cs an now 0 k)) (fun j hj => ?_) (fun m hm => ?_)))
  ·have no:¬ Tr cs an now 0 k→∀ b,b=false→(∃ b',s.set k b=s.set k b'∧(b'=true↔Tr cs an now 0 k)):=fun h b e=>⟨false,by rw [e],fun e=>(by cases e),fun e=>(h e).elim⟩
   refine Tot.ite (fun h1=>Tot.bindT (anchored_tot ha) fun c hc=>Tot.ite (fun h2=>Tot.bindOf (show xref22_current cs[k].fFrom cs[k].fUntil now=some _ from rfl) (Tot.ite (fun h3 => ?_) (fun h3 => ?_))) (fun h2 => ?_)) (fun h1 => ?_)
   ·simp only [Bool.and_eq_true,decide_eq_true_eq] at h3
    refine Tot.bindT (rvalid21 hraw.R hraw.la hraw.ls) fun b hb=>Tot.bindIdx k rfl hk2 (Tot.bindIdx k rfl hk2 (hj _ ⟨b,rfl,?_⟩))
    rw [hb,tr_zero hcs]
    exact⟨fun e=>⟨⟨h3.1,h3.2,e⟩,beq_iff_eq.1 h1,hc.1 h2⟩,fun e=>e.1.v⟩
   ·refine Tot.bindIdx k rfl hk2 (Tot.bindIdx k rfl hk2 (hj _ (no (fun e => ?_) false rfl)))
    rw [tr_zero hcs] at e
    rw [decide_eq_true e.1.f,decide_eq_true e.1.t] at h3
    cases h3
   ·refine Tot.bindIdx k rfl hk2 (Tot.bindIdx k rfl hk2 (hj _ (no (fun e => ?_) false rfl)))
    rw [tr_zero hcs] at e
    rw [hc.2 e.2.2] at h2
    cases h2
   ·refine Tot.bindIdx k rfl hk2 (Tot.bindIdx k rfl hk2 (hj _ (no (fun e => ?_) false rfl)))
    rw [tr_zero hcs] at e
    exact(beq_eq_false_iff_ne.1 h1) e.2.1
  ·obtain⟨b2,rfl,hb2⟩:=hm
   refine Tot.step (s.set k b2) (by rw [hw]) ⟨by rw [List.length_set];exact s2,fun i hi => ?_⟩
   rw [bset hk2]
   by_cases e:k=i
   ·subst e
    rw [if_pos rfl,Option.some.injEq]
    exact hb2
   ·rw [if_neg e]
    exact s4 i (by omega)
 ·obtain⟨s2,s4⟩:=hs
  unfold xref22_Trusted_L0
  refine Tot.iteF (by simp) (Tot.last ⟨s2,fun i => ?_⟩)
  by_cases e:i<cs.length
  ·exact s4 i e
  ·simp only
   rw [List.getElem?_eq_none (by omega)]
   exact⟨fun h=>(by cases h),fun h=>(e (tr_lt h)).elim⟩
theorem rtrust_L3 {t:Int×List Bool} {m:Nat} (hl:cs.length≤1000000) (ht:t.2.length=cs.length) (htr:∀ i,t.2[i]? = some true↔Tr cs an now m i) {c:aCert} (hc:VRes c.fResources) {z:Int×List Bool} {i:Nat} (hz:z.1=i) {o:List Bool} (hi:i<o.length) (ho:o[i]? = some false) :
  Tot (loop (xref22_Trusted_L3 cs t z c) ((0:Int),o)) (fun r=>∃ b,r=o.set i b∧(b=true↔∃ j d,cs[j]? = some d∧Tr cs an now m j∧d.fKey=c.fIssuer∧Sub d c)):=by
 have h0:o.set i false=o:=by
  refine List.ext_getElem? fun j => ?_
  rw [bset hi]
  by_cases e:i=j
  ·subst e;rw [if_pos rfl,ho]
  ·rw [if_neg e]
 refine Tot.rng cs.length (fun k (b:Bool)=>(((k:Nat):Int),o.set i b)) (fun k b=>b=true↔∃ j d,j<k∧cs[j]? = some d∧Tr cs an now m j∧d.fKey=c.fIssuer∧Sub d c) _ false (by rw [h0];rfl) ⟨fun e=>(by cases e),fun⟨j,d,h,_⟩=>by omega⟩ (fun k b hk hb => ?_) (fun b hb => ?_)
 ·have hw:w64 ((k:Int)+1)=((k+1:Nat):Int):=by rw [w64_id (by omega) (by omega)];rfl
  have hkt:k<t.2.length:=by omega
  have hcs:cs[k]? = some cs[k]:=List.getElem?_eq_getElem hk
  have hi2:i<(o.set i b).length:=by rw [List.length_set];exact hi
  have hget:(o.set i b)[i]=b:=List.getElem_set_self _
  unfold xref22_Trusted_L3
  rw [hz]
  refine Tot.iteT (by simpa using hk) (Tot.bindIdx k rfl hk (Tot.jnR (fun r:List Bool=>∃ b2,r=o.set i b2∧(b2=true↔∃ j d,j<k+1∧cs[j]? = some d∧Tr cs an now m j∧d.fKey=c.fIssuer∧Sub d c)) (fun j hj => ?_) (fun r hr => ?_)))
  ·refine Tot.bindIdx i rfl hi2 (Tot.bindIdx i rfl hi2 ?_)
   rw [hget]
   simp only [Int.toNat_natCast,List.set_set]
   refine Tot.ite (fun h=>Tot.bindIdx i rfl hi2 (Tot.bindIdx i rfl hi2 (hj _ ⟨true,rfl,fun _ => ?_,fun _=>rfl⟩))) (fun h => ?_)
   ·obtain⟨j2,d,h1,h2⟩:=hb.1 h
    exact⟨j2,d,by omega,h2⟩
   ·have hno:¬ ∃ j d,j<k∧cs[j]? = some d∧Tr cs an now m j∧d.fKey=c.fIssuer∧Sub d c:=fun e=>by rw [hb.2 e] at h;cases h
    refine Tot.bindIdx k rfl hkt (Tot.ite (fun h2 => ?_) (fun h2 => ?_))
    ·simp only [Bool.and_eq_true,beq_iff_eq] at h2
     have hk1:=(htr k).1 (by rw [List.getElem?_eq_getElem hkt,h2.1])
     obtain⟨d,e1,e2⟩:=tr_fine hk1
     rw [hcs] at e1
     cases e1
     refine Tot.bindT (rcov_tot e2.v hc) fun b3 hb3=>Tot.bindIdx i rfl hi2 (Tot.bindIdx i rfl hi2 (hj _ ⟨b3,rfl,?_⟩))
     rw [hb3]
     constructor
     ·intro e
      exact⟨k,_,by omega,hcs,hk1,h2.2,e⟩
     ·rintro⟨j2,d,g1,g2,g3,g4,g5⟩
      rcases Nat.lt_or_ge j2 k with cc | cc
      ·exact(hno ⟨j2,d,cc,g2,g3,g4,g5⟩).elim
      ·have:j2=k:=by omega
       subst this
       rw [hcs] at g2
       cases g2
       exact g5
    ·refine Tot.bindIdx i rfl hi2 (Tot.bindIdx i rfl hi2 (hj _ ⟨false,rfl,fun e=>(by cases e),?_⟩))
     rintro⟨j2,d,g1,g2,g3,g4,g5⟩
     rcases Nat.lt_or_ge j2 k with cc | cc
     ·exact(hno ⟨j2,d,cc,g2,g3,g4,g5⟩).elim
     ·have:j2=k:=by omega
      subst this
      rw [hcs] at g2
      cases g2
      have h1:=(htr j2).2 g3
      rw [List.getElem?_eq_getElem hkt] at h1
      rw [Option.some.inj h1,g4] at h2
      simp at h2
  ·obtain⟨b2,rfl,hb2⟩:=hr
   exact Tot.step b2 (by rw [hw]) hb2
 ·unfold xref22_Trusted_L3
  refine Tot.iteF (by simp) (Tot.last ⟨b,rfl,hb.trans ⟨fun⟨j,d,_,h⟩=>⟨j,d,h⟩,fun⟨j,d,h⟩=>⟨j,d,tr_lt h.2.1,h⟩⟩⟩)
theorem rtrust_L2 {t:Int×List Bool} {m:Nat} (hr:∀ c∈cs,Raw c.fResources) (hl:cs.length≤1000000) (ht:t.2.length=cs.length) (htr:∀ i,t.2[i]? = some true↔Tr cs an now m i) :
  Tot (loop (xref22_Trusted_L2 cs now t) ((0:Int),t.2)) (fun o=>o.length=cs.length∧∀ i,o[i]? = some true↔Tr cs an now (m+1) i):=by
 refine Tot.rng cs.length (fun k (s:List Bool)=>(((k:Nat):Int),s)) (fun k o=>o.length=cs.length∧(∀ i,i<k→(o[i]? = some true↔Tr cs an now (m+1) i))∧∀ i,k≤i→o[i]? = t.2[i]?) _ t.2 rfl ⟨ht,fun i h=>by omega,fun _ _=>rfl⟩ (fun k s hk hs => ?_) (fun s hs => ?_)
 ·obtain⟨s1,s2,s3⟩:=hs
  have hw:w64 ((k:Int)+1)=((k+1:Nat):Int):=by rw [w64_id (by omega) (by omega)];rfl
  have hk1:k<s.length:=by omega
  have hkt:k<t.2.length:=by omega
  have hcs:cs[k]? = some cs[k]:=List.getElem?_eq_getElem hk
  have hraw:=hr _ (List.getElem_mem hk)
  have htk:t.2[k]=true↔Tr cs an now m k:=by
   rw [← htr,List.getElem?_eq_getElem hkt,Option.some.injEq]
  unfold xref22_Trusted_L2
  refine Tot.iteT (by simpa using hk) (Tot.jnR (fun o:List Bool=>∃ b,o=s.set k b∧(b=true↔Tr cs an now (m+1) k)) (fun j hj=>Tot.bindIdx k rfl hk ?_) (fun o ho => ?_))
  ·have same:∀ b,t.2[k]=b→(b=true↔Tr cs an now (m+1) k)→∃ b',s=s.set k b'∧(b'=true↔Tr cs an now (m+1) k):=fun b e h=>by
    refine⟨b,?_,h⟩
    refine List.ext_getElem? fun i => ?_
    rw [bset hk1]
    by_cases e2:k=i
    ·subst e2
     rw [if_pos rfl,s3 k (Nat.le_refl _),List.getElem?_eq_getElem hkt,e]
    ·rw [if_neg e2]
   refine Tot.jnR (fun q:Bool=>(q=true→∃ b',s=s.set k b'∧(b'=true↔Tr cs an now (m+1) k))∧(q=false→t.2[k]=false∧Fine cs[k] now∧cs[k].fIssuer≠cs[k].fKey)) (fun j2 hj2=>Tot.bindIdx k rfl hkt (Tot.ite (fun h=>hj2 _ ⟨fun _ => ?_,fun e=>(by cases e)⟩) (fun h => ?_))) (fun q hq=>Tot.ite (fun h=>hj _ (hq.1 h)) (fun h => ?_))
   ·cases e:t.2[k] with
    | true=>exact same true e ⟨fun _ => .up (htk.1 e),fun _=>rfl⟩
    | false =>
     rw [e] at h
     have hself:cs[k].fIssuer=cs[k].fKey:=by simpa using h
     refine same false e ⟨fun e=>(by cases e),fun g => ?_⟩
     rw [tr_succ hcs] at g
     rcases g with g | g
     ·rw [htk.2 g] at e;cases e
     ·exact(g.2.1 hself).elim
   ·simp only [Bool.or_eq_false_iff,beq_eq_false_iff_ne] at h
    obtain⟨h1,h2⟩:=h
    have bad:¬ Fine cs[k] now→∃ b',s=s.set k b'∧(b'=true↔Tr cs an now (m+1) k):=fun hf=>same false h1 ⟨fun e=>(by cases e),fun g=>by
     rw [tr_succ hcs] at g
     rcases g with g | g
     ·rw [htk.2 g] at h1;cases h1
     ·exact(hf g.1).elim⟩
    refine Tot.bindOf (show xref22_current cs[k].fFrom cs[k].fUntil now=some _ from rfl) (Tot.ite (fun h3=>hj2 _ ⟨fun _=>bad fun hf => ?_,fun e=>(by cases e)⟩) (fun h3 => ?_))
    ·rw [decide_eq_true hf.f,decide_eq_true hf.t] at h3
     cases h3
    ·have h3:decide (cs[k].fFrom≤now)=true∧decide (now≤cs[k].fUntil)=true:=by simpa using h3
     refine Tot.bindT (rvalid21 hraw.R hraw.la hraw.ls) fun b hb=>hj2 _ ?_
     cases b with
     | true=>exact⟨fun e=>(by cases e),fun _=>⟨h1,⟨of_decide_eq_true h3.1,of_decide_eq_true h3.2,hb.1 rfl⟩,h2⟩⟩
     | false=>exact⟨fun _=>bad fun hf=>(by have:=hb.2 hf.v;cases this),fun e=>(by cases e)⟩
   ·obtain⟨g1,g2,g3⟩:=hq.2 h
    have hsk:s[k]? = some false:=by rw [s3 k (Nat.le_refl _),List.getElem?_eq_getElem hkt,g1]
    refine Tot.bindT (rtrust_L3 (i:=k) hl ht htr g2.v rfl hk1 hsk) ?_
    rintro r ⟨b,rfl,hb⟩
    refine hj _ ⟨b,rfl,?_⟩
    rw [hb,tr_succ hcs]
    exact⟨fun e => .inr ⟨g2,g3,e⟩,fun e=>(e.resolve_left fun e2=>by rw [htk.2 e2] at g1;cases g1).2.2⟩
  ·obtain⟨b,rfl,hb⟩:=ho
   refine Tot.step (s.set k b) (by rw [hw]) ⟨by rw [List.length_set];exact s1,fun i hi => ?_,fun i hi => ?_⟩
   ·rw [bset hk1]
    by_cases e:k=i
    ·subst e
     rw [if_pos rfl,Option.some.injEq]
     exact hb
    ·rw [if_neg e]
     exact s2 i (by omega)
   ·rw [bset hk1,if_neg (by omega)]
    exact s3 i (by omega)
 ·obtain⟨s1,s2,s3⟩:=hs
  unfold xref22_Trusted_L2
  refine Tot.iteF (by simp) (Tot.last ⟨s1,fun i => ?_⟩)
  by_cases e:i<cs.length
  ·exact s2 i e
  ·simp only
   rw [List.getElem?_eq_none (by omega)]
   exact⟨fun h=>(by cases h),fun h=>(e (tr_lt h)).elim⟩
end
theorem rtrusted_tot {cs:List aCert} {an:List Int} {now:Int} (hr:∀ c∈cs,Raw c.fResources) (hl:cs.length≤1000000) (ha:an.length≤1000000000) :
  Tot (xref22_Trusted cs an now) (fun t=>t.length=cs.length∧∀ i,t[i]? = some true↔Tr cs an now 15 i):=by
 unfold xref22_Trusted
 have hc:((decide (0≤(cs.length:Int))&&decide ((cs.length:Int)≤(cs.length:Int))&&decide ((cs.length:Int)≤(LIM:Int))))=true:=by
  rw [decide_eq_true (by omega),decide_eq_true (Int.le_refl _),decide_eq_true (show(cs.length:Int)≤(LIM:Int) from Int.ofNat_le.2 (show cs.length≤4294967296 by omega))]
  rfl
 refine Tot.chk hc ?_
 rw [Int.toNat_natCast]
 refine Tot.bindT (rtrust_L0 hr hl ha) fun p hp => ?_
 refine Tot.bindRng 15 (fun k (s:List Bool)=>(((k:Nat):Int),s)) (fun k t=>t.length=cs.length∧∀ i,t[i]? = some true↔Tr cs an now k i) (fun t=>t.length=cs.length∧∀ i,t[i]? = some true↔Tr cs an now 15 i) p rfl hp (fun k s hk hs => ?_) (fun s hs => ?_) (fun t ht=>Tot.some ht)
 ·have hw:w64 ((k:Int)+1)=((k+1:Nat):Int):=by rw [w64_id (by omega) (by omega)];rfl
  obtain⟨s1,s2⟩:=hs
  unfold xref22_Trusted_L1
  exact Tot.iteT (decide_eq_true (show(k:Int)<15 by omega)) (Tot.chk (limB (show s.length≤4000000000 by omega)) (Tot.bindT (rtrust_L2 (t:=((k:Int),s)) hr hl s1 s2) fun o ho=>Tot.step o (by rw [hw]) ho))
 ·unfold xref22_Trusted_L1
  exact Tot.iteF rfl (Tot.last hs)
theorem bools_one {a b:List Bool} (hl:a.length=b.length) (h:∀ i:Nat,a[i]? = some true↔b[i]? = some true):a=b:=by
 refine List.ext_getElem? fun i => ?_
 have:=h i
 by_cases hi:i<a.length
 ·rw [List.getElem?_eq_getElem hi,List.getElem?_eq_getElem (show i<b.length by omega)] at this ⊢
  simp only [Option.some.injEq] at this ⊢
  cases e:a[i]<;>cases e2:b[i]
  ·rfl
  ·rw [this.2 e2] at e;cases e
  ·rw [this.1 e] at e2;cases e2
  ·rfl
 ·rw [List.getElem?_eq_none (by omega),List.getElem?_eq_none (by omega)]
theorem trust_both {cs:List aCert} {an:List Int} {now:Int} (hr:∀ c∈cs,Raw c.fResources) (hl:cs.length≤1000000) (ha:an.length≤1000000000) :
  ∃ t,origin_Trusted cs an now=some t∧xref22_Trusted cs an now=some t∧t.length=cs.length∧∀ i,t[i]? = some true↔Tr cs an now 15 i:=by
 obtain⟨t,e1,h1,h2⟩:=trusted_tot (now:=now) hr hl ha
 obtain⟨t',e2,h3,h4⟩:=rtrusted_tot (now:=now) hr hl ha
 have:t=t':=bools_one (by omega) fun i=>(h2 i).trans (h4 i).symm
 subst this
 exact⟨t,e1,e2,h1,h2⟩
theorem sameB (l:List Bool) (hl:l.length≤1000000):xlaw22_sameBools l l=some true:=by
 refine Tot.eq ?_
 unfold xlaw22_sameBools
 refine Tot.iteF (by simp) (Tot.bindRng l.length (fun k (_:Unit)=>((k:Nat):Int)) (fun _ _=>True) (fun x=>x = .inr ()) () rfl trivial (fun k _ hk _ => ?_) (fun _ _ => ?_) ?_)
 ·have hw:w64 ((k:Int)+1)=((k+1:Nat):Int):=by rw [w64_id (by omega) (by omega)];rfl
  unfold xlaw22_sameBools_L0
  exact Tot.iteT (by simpa using hk) (Tot.bindIdx k rfl hk (Tot.bindIdx k rfl hk (Tot.iteF (by simp) (Tot.step () (by rw [hw]) trivial))))
 ·unfold xlaw22_sameBools_L0
  exact Tot.iteF (by simp) (Tot.last rfl)
 ·rintro _ rfl
  exact Tot.some rfl
end Go.Proofs.YtgfoabcickjphaaGreatDoor

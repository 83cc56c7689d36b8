/- Which certificates the code trusts; states; the example of chapter 22, in plain Lean. -/
import Derived.Test.YtgfoabcickjphaaGreatDoorPureZJ
import Derived.Test.YtgfoabcickjphaaGreatDoorPureZJ
namespace Go.Proofs.YtgfoabcickjphaaGreatDoor
open Go Go.Vc
theorem contains_tot {l:List Int} {x:Int} (hl:l.length≤1000000000):Tot (slices_Contains l x) (fun b=>b=true↔x∈l):=by
 unfold slices_Contains slices_Index
 refine Tot.bindT (P':=fun i:Int=>(0≤i∧x∈l)∨(i = -1∧¬ x∈l)) ?_ fun i hi=>Tot.some ?_
 ·refine Tot.bindRng l.length (fun k (_:Unit)=>((k:Nat):Int)) (fun k _=>¬ x∈l.take k) (fun y=>match y with | .inl i=>0≤i∧x∈l | .inr _=>¬ x∈l) () rfl (by simp) (fun k b hk hb => ?_) (fun b hb => ?_) (fun y hy => ?_)
  ·unfold slices_Index_L0
   have hw:w64 ((k:Int)+1)=((k+1:Nat):Int):=by rw [w64_id (by omega) (by omega)];rfl
   refine Tot.iteT (by simpa using hk) (Tot.bindIdx k rfl hk (Tot.ite (fun h=>Tot.stop ⟨by omega,?_⟩) (fun h=>Tot.step () (by rw [hw]) fun hm => ?_)))
   ·rw [beq_iff_eq.1 h];exact List.getElem_mem hk
   ·rw [take_snoc hk] at hm
    rcases List.mem_append.1 hm with hm | hm
    ·exact hb hm
    ·exact(beq_eq_false_iff_ne.1 h) (List.mem_singleton.1 hm)
  ·unfold slices_Index_L0
   refine Tot.iteF (by simp) (Tot.last ?_)
   rw [List.take_length] at hb
   exact hb
  ·cases y with
   | inl i=>exact Tot.some (.inl hy)
   | inr _=>exact Tot.some (.inr ⟨rfl,hy⟩)
 ·rcases hi with ⟨h1,h2⟩ | ⟨h1,h2⟩
  ·rw [decide_eq_true h1]
   exact⟨fun _=>h2,fun _=>rfl⟩
  ·subst h1
   exact⟨fun e=>absurd e (by decide),fun e=>(h2 e).elim⟩
structure Raw (r:aResources):Prop where
 R:RRes r
 la:r.fAddrs.length≤1000000
 ls:r.fASNs.length≤1000000
structure Fine (c:aCert) (now:Int):Prop where
 f:c.fFrom≤now
 t:now≤c.fUntil
 v:VRes c.fResources
def Sub (d c:aCert):Prop:=(∀ n,cA c.fResources n→cA d.fResources n)∧(∀ n,cS c.fResources n→cS d.fResources n)
inductive Tr (cs:List aCert) (an:List Int) (now:Int):Nat→Nat→Prop
 | base {i:Nat} {c:aCert}:cs[i]? = some c→Fine c now→c.fIssuer=c.fKey→c.fKey∈an→Tr cs an now 0 i
 | up {k i:Nat}:Tr cs an now k i→Tr cs an now (k+1) i
 | iss {k i j:Nat} {c d:aCert}:cs[i]? = some c→cs[j]? = some d→Fine c now→c.fIssuer≠c.fKey→Tr cs an now k j→d.fKey=c.fIssuer→Sub d c→Tr cs an now (k+1) i
section
variable {cs:List aCert} {an:List Int} {now:Int}
theorem tr_fine {k i:Nat} (h:Tr cs an now k i):∃ c,cs[i]? = some c∧Fine c now:=by
 induction h with
 | base h1 h2 _ _=>exact⟨_,h1,h2⟩
 | up _ ih=>exact ih
 | iss h1 _ h3 _ _ _ _ _=>exact⟨_,h1,h3⟩
theorem tr_lt {k i:Nat} (h:Tr cs an now k i):i<cs.length:=by
 obtain⟨c,hc,_⟩:=tr_fine h
 exact(List.getElem?_eq_some_iff.1 hc).1
theorem tr_zero {i:Nat} {c:aCert} (hc:cs[i]? = some c):Tr cs an now 0 i↔Fine c now∧c.fIssuer=c.fKey∧c.fKey∈an:=by
 constructor
 ·intro h
  cases h with
  | base h1 h2 h3 h4 =>
   rw [hc] at h1
   cases h1
   exact⟨h2,h3,h4⟩
 ·rintro⟨h2,h3,h4⟩
  exact .base hc h2 h3 h4
theorem tr_succ {k i:Nat} {c:aCert} (hc:cs[i]? = some c):Tr cs an now (k+1) i↔Tr cs an now k i∨(Fine c now∧c.fIssuer≠c.fKey∧∃ j d,cs[j]? = some d∧Tr cs an now k j∧d.fKey=c.fIssuer∧Sub d c):=by
 constructor
 ·intro h
  cases h with
  | up h=>exact .inl h
  | iss h1 h2 h3 h4 h5 h6 h7 =>
   rw [hc] at h1
   cases h1
   exact .inr ⟨h3,h4,_,_,h2,h5,h6,h7⟩
 ·rintro(h | ⟨h3,h4,j,d,h2,h5,h6,h7⟩)
  ·exact .up h
  ·exact .iss hc h2 h3 h4 h5 h6 h7
theorem tr_mono {k i:Nat} (h:Tr cs an now k i):∀ m,Tr cs an now (k+m) i
 | 0=>h
 | m+1 => .up (tr_mono h m)
theorem tr_fix {k:Nat} (h:∀ i,Tr cs an now (k+1) i→Tr cs an now k i):∀ m i,Tr cs an now (k+m) i→Tr cs an now k i
 | 0,_,h0=>h0
 | m+1,i,h1=>by
  have h1:Tr cs an now ((k+m)+1) i:=h1
  cases h1 with
  | up h2=>exact tr_fix h m i h2
  | iss a1 a2 a3 a4 a5 a6 a7=>exact h i (.iss a1 a2 a3 a4 (tr_fix h m _ a5) a6 a7)
theorem bset {l:List Bool} {k:Nat} (hk:k<l.length) (b:Bool) (j:Nat):(l.set k b)[j]? = if k=j then some b else l[j]? :=by
 rw [List.getElem?_set]
 by_cases e:k=j
 ·rw [if_pos e,if_pos e,if_pos (e ▸ hk)]
 ·rw [if_neg e,if_neg e]
theorem issued_tot {t:List Bool} {m:Nat} (hl:cs.length≤1000000) (ht:t.length=cs.length) (htr:∀ i,t[i]? = some true↔Tr cs an now m i) {c:aCert} (hc:VRes c.fResources) :
  Tot (origin_issued cs t c) (fun b=>b=true↔∃ j d,cs[j]? = some d∧Tr cs an now m j∧d.fKey=c.fIssuer∧Sub d c):=by
 unfold origin_issued
 refine Tot.bindRng cs.length (fun k (_:Unit)=>((k:Nat):Int)) (fun k _=>¬ ∃ j d,j<k∧cs[j]? = some d∧Tr cs an now m j∧d.fKey=c.fIssuer∧Sub d c) (fun x=>match x with | .inl _=>∃ j d,cs[j]? = some d∧Tr cs an now m j∧d.fKey=c.fIssuer∧Sub d c | .inr _=>¬ ∃ j d,cs[j]? = some d∧Tr cs an now m j∧d.fKey=c.fIssuer∧Sub d c) () rfl (by rintro⟨j,d,h,_⟩;omega) (fun k b hk hb => ?_) (fun b hb => ?_) (fun x hx => ?_)
 ·have hw:w64 ((k:Int)+1)=((k+1:Nat):Int):=by rw [w64_id (by omega) (by omega)];rfl
  have hkt:k<t.length:=by omega
  have hcs:cs[k]? = some cs[k]:=List.getElem?_eq_getElem hk
  unfold origin_issued_L0
  refine Tot.iteT (by simpa using hk) (Tot.bindIdx k rfl hk (Tot.jnR (fun b:Bool=>b=true↔Tr cs an now m k∧cs[k].fKey=c.fIssuer∧Sub cs[k] c) (fun j hj=>Tot.bindIdx k rfl hkt (Tot.ite (fun h => ?_) (fun h=>hj _ ?_))) (fun b hb2=>Tot.ite (fun h=>Tot.stop ⟨k,_,hcs,hb2.1 h⟩) (fun h=>Tot.step () (by rw [hw]) ?_))))
  ·simp only [Bool.and_eq_true,beq_iff_eq] at h
   have hk1:=(htr k).1 (by rw [List.getElem?_eq_getElem hkt,h.1])
   obtain⟨d,e1,e2⟩:=tr_fine hk1
   rw [hcs] at e1
   cases e1
   refine Tot.bindT (covers_tot e2.v hc) fun b hb3=>hj _ ?_
   rw [hb3]
   exact⟨fun e=>⟨hk1,h.2,e⟩,fun e=>e.2.2⟩
  ·refine⟨fun e=>(by cases e),fun e => ?_⟩
   have h1:=(htr k).2 e.1
   rw [List.getElem?_eq_getElem hkt] at h1
   rw [Option.some.inj h1,e.2.1] at h
   simp at h
  ·rintro⟨j,d,h1,h2,h3⟩
   rcases Nat.lt_or_ge j k with c | c
   ·exact hb ⟨j,d,c,h2,h3⟩
   ·have:j=k:=by omega
    subst this
    rw [hcs] at h2
    cases h2
    rw [hb2.2 h3] at h
    cases h
 ·unfold origin_issued_L0
  refine Tot.iteF (by simp) (Tot.last ?_)
  rintro⟨j,d,h⟩
  exact hb ⟨j,d,tr_lt h.2.1,h⟩
 ·cases x with
  | inl _=>exact Tot.some ⟨fun _=>hx,fun _=>rfl⟩
  | inr _=>exact Tot.some ⟨fun e=>(by cases e),fun e=>(hx e).elim⟩
theorem trust_L0 (hr:∀ c∈cs,Raw c.fResources) (hl:cs.length≤1000000) (ha:an.length≤1000000000) :
  Tot (loop (origin_Trusted_L0 cs an now) ((0:Int),(List.replicate cs.length false),(List.replicate cs.length false))) (fun p=>p.1.length=cs.length∧p.2.length=cs.length∧(∀ (i:Nat) (c:aCert),cs[i]? = some c→(p.1[i]? = some true↔Fine c now))∧∀ i,p.2[i]? = some true↔Tr cs an now 0 i):=by
 refine Tot.rng cs.length (fun k (s:List Bool×List Bool)=>(((k:Nat):Int),s.1,s.2)) (fun k p=>p.1.length=cs.length∧p.2.length=cs.length∧(∀ (i:Nat) (c:aCert),i<k→cs[i]? = some c→(p.1[i]? = some true↔Fine c now))∧∀ i,i<k→(p.2[i]? = some true↔Tr cs an now 0 i)) _ (List.replicate cs.length false,List.replicate cs.length false) rfl ⟨by simp,by simp,fun i c h _=>by omega,fun i h=>by omega⟩ (fun k s hk hs => ?_) (fun s hs => ?_)
 ·obtain⟨s1,s2,s3,s4⟩:=hs
  have hw:w64 ((k:Int)+1)=((k+1:Nat):Int):=by rw [w64_id (by omega) (by omega)];rfl
  have hk1:k<s.1.length:=by omega
  have hk2:k<s.2.length:=by omega
  have hcs:cs[k]? = some cs[k]:=List.getElem?_eq_getElem hk
  have hraw:=hr _ (List.getElem_mem hk)
  unfold origin_Trusted_L0
  refine Tot.iteT (by simpa using hk) (Tot.bindIdx k rfl hk (Tot.jnR (fun m:List Bool=>∃ b,m=s.1.set k b∧(b=true↔Fine cs[k] now)) (fun j hj => ?_) (fun m hm => ?_)))
  ·refine Tot.bindOf (show origin_current cs[k].fFrom cs[k].fUntil now=some _ from rfl) (Tot.ite (fun h => ?_) (fun h => ?_))
   ·simp only [Bool.and_eq_true,decide_eq_true_eq] at h
    refine Tot.bindT (valid_eq hraw.R hraw.la hraw.ls) fun b hb=>Tot.bindIdx k rfl hk1 (Tot.bindIdx k rfl hk1 (hj _ ⟨b,rfl,?_⟩))
    rw [hb]
    exact⟨fun e=>⟨h.1,h.2,e⟩,fun e=>e.v⟩
   ·refine Tot.bindIdx k rfl hk1 (Tot.bindIdx k rfl hk1 (hj _ ⟨false,rfl,fun e=>(by cases e),fun e => ?_⟩))
    rw [decide_eq_true e.f,decide_eq_true e.t] at h
    cases h
  ·obtain⟨b,rfl,hb⟩:=hm
   have hk3:k<(s.1.set k b).length:=by rw [List.length_set];exact hk1
   have hget:(s.1.set k b)[k]=b:=List.getElem_set_self _
   have key:∀ b2:Bool,(b2=true↔Tr cs an now 0 k)→(s.1.set k b).length=cs.length∧(s.2.set k b2).length=cs.length∧(∀ (i:Nat) (c:aCert),i<k+1→cs[i]? = some c→((s.1.set k b)[i]? = some true↔Fine c now))∧∀ i,i<k+1→((s.2.set k b2)[i]? = some true↔Tr cs an now 0 i):=fun b2 h2=>by
    refine⟨by rw [List.length_set];exact s1,by rw [List.length_set];exact s2,fun i c hi hc => ?_,fun i hi => ?_⟩
    ·rw [bset hk1]
     by_cases e:k=i
     ·subst e
      rw [hcs] at hc
      cases hc
      rw [if_pos rfl,Option.some.injEq]
      exact hb
     ·rw [if_neg e]
      exact s3 i c (by omega) hc
    ·rw [bset hk2]
     by_cases e:k=i
     ·subst e
      rw [if_pos rfl,Option.some.injEq]
      exact h2
     ·rw [if_neg e]
      exact s4 i (by omega)
   refine Tot.jnR (fun m:List Bool=>∃ b2,m=s.2.set k b2∧(b2=true↔Tr cs an now 0 k)) (fun j hj => ?_) (fun m hm => ?_)
   ·refine Tot.bindIdx k rfl hk3 (Tot.bindIdx k rfl hk3 ?_)
    rw [hget]
    refine Tot.ite (fun h => ?_) (fun h => ?_)
    ·simp only [Bool.and_eq_true,beq_iff_eq] at h
     refine Tot.bindT (contains_tot ha) fun c hc=>Tot.bindIdx k rfl hk2 (Tot.bindIdx k rfl hk2 (hj _ ⟨c,rfl,?_⟩))
     rw [hc,tr_zero hcs]
     exact⟨fun e=>⟨hb.1 h.1,h.2,e⟩,fun e=>e.2.2⟩
    ·refine Tot.bindIdx k rfl hk2 (Tot.bindIdx k rfl hk2 (hj _ ⟨false,rfl,fun e=>(by cases e),fun e => ?_⟩))
     rw [tr_zero hcs] at e
     rw [hb.2 e.1,e.2.1] at h
     simp at h
   ·obtain⟨b2,rfl,hb2⟩:=hm
    exact Tot.step (s.1.set k b,s.2.set k b2) (by rw [hw]) (key b2 hb2)
 ·obtain⟨s1,s2,s3,s4⟩:=hs
  unfold origin_Trusted_L0
  refine Tot.iteF (by simp) (Tot.last ⟨s1,s2,fun i c hc=>s3 i c (List.getElem?_eq_some_iff.1 hc).1 hc,fun i => ?_⟩)
  by_cases e:i<cs.length
  ·exact s4 i e
  ·simp only
   rw [List.getElem?_eq_none (by omega)]
   exact⟨fun h=>(by cases h),fun h=>(e (tr_lt h)).elim⟩
theorem trust_L2 {p:List Bool×List Bool} {t:List Bool} {m:Nat} (hl:cs.length≤1000000) (hp:p.1.length=cs.length) (hf:∀ (i:Nat) (c:aCert),cs[i]? = some c→(p.1[i]? = some true↔Fine c now)) (ht:t.length=cs.length) (htr:∀ i,t[i]? = some true↔Tr cs an now m i) :
  Tot (loop (origin_Trusted_L2 cs p t) ((0:Int),t)) (fun o=>o.length=cs.length∧∀ i,o[i]? = some true↔Tr cs an now (m+1) i):=by
 refine Tot.rng cs.length (fun k (s:List Bool)=>(((k:Nat):Int),s)) (fun k o=>o.length=cs.length∧(∀ i,i<k→(o[i]? = some true↔Tr cs an now (m+1) i))∧∀ i,k≤i→o[i]? = t[i]?) _ t rfl ⟨ht,fun i h=>by omega,fun _ _=>rfl⟩ (fun k s hk hs => ?_) (fun s hs => ?_)
 ·obtain⟨s1,s2,s3⟩:=hs
  have hw:w64 ((k:Int)+1)=((k+1:Nat):Int):=by rw [w64_id (by omega) (by omega)];rfl
  have hk1:k<s.length:=by omega
  have hkp:k<p.1.length:=by omega
  have hcs:cs[k]? = some cs[k]:=List.getElem?_eq_getElem hk
  have hsk:s[k]=true↔Tr cs an now m k:=by
   rw [← htr,← s3 k (Nat.le_refl _),List.getElem?_eq_getElem hk1,Option.some.injEq]
  have hfk:p.1[k]=true↔Fine cs[k] now:=by
   rw [← hf k _ hcs,List.getElem?_eq_getElem hkp,Option.some.injEq]
  unfold origin_Trusted_L2
  refine Tot.iteT (by simpa using hk) (Tot.bindIdx k rfl hk (Tot.jnR (fun o:List Bool=>∃ b,o=s.set k b∧(b=true↔Tr cs an now (m+1) k)) (fun j hj => ?_) (fun o ho => ?_)))
  ·refine Tot.bindIdx k rfl hk1 (Tot.bindIdx k rfl hk1 (Tot.ite (fun h => ?_) (fun h => ?_)))
   ·exact Tot.bindIdx k rfl hk1 (Tot.bindIdx k rfl hk1 (hj _ ⟨true,rfl,fun _ => .up (hsk.1 h),fun _=>rfl⟩))
   ·have hn:¬ Tr cs an now m k:=fun e=>by rw [hsk.2 e] at h;cases h
    refine Tot.bindIdx k rfl hkp (Tot.bindIdx k rfl hkp (Tot.ite (fun h2 => ?_) (fun h2 => ?_)))
    ·simp only [Bool.and_eq_true,bne_iff_ne] at h2
     have hfine:=hfk.1 h2.1
     refine Tot.bindT (issued_tot hl ht htr hfine.v) fun b hb=>Tot.bindIdx k rfl hk1 (Tot.bindIdx k rfl hk1 (hj _ ⟨b,rfl,?_⟩))
     rw [hb,tr_succ hcs]
     exact⟨fun e => .inr ⟨hfine,h2.2,e⟩,fun e=>(e.resolve_left hn).2.2⟩
    ·refine Tot.bindIdx k rfl hk1 (Tot.bindIdx k rfl hk1 (hj _ ⟨false,rfl,fun e=>(by cases e),fun e => ?_⟩))
     rw [tr_succ hcs] at e
     have e:=e.resolve_left hn
     rw [hfk.2 e.1] at h2
     simp [e.2.1] at h2
  ·obtain⟨b,rfl,hb⟩:=ho
   refine Tot.step (s.set k b) (by rw [hw]) ⟨by rw [List.length_set];exact s1,fun i hi => ?_,fun i hi => ?_⟩
   ·rw [bset hk1]
    by_cases e:k=i
    ·subst e
     rw [if_pos rfl,Option.some.injEq]
     exact hb
    ·rw [if_neg e]
     exact s2 i (by omega)
   ·rw [bset hk1,if_neg (by omega)]
    exact s3 i (by omega)
 ·obtain⟨s1,s2,s3⟩:=hs
  unfold origin_Trusted_L2
  refine Tot.iteF (by simp) (Tot.last ⟨s1,fun i => ?_⟩)
  by_cases e:i<cs.length
  ·exact s2 i e
  ·simp only
   rw [List.getElem?_eq_none (by omega)]
   exact⟨fun h=>(by cases h),fun h=>(e (tr_lt h)).elim⟩
end
theorem equal_tot {a b:List Bool} (hl:a.length=b.length) (hn:a.length≤1000000):Tot (slices_Equal a b) (fun c=>c=true→a=b):=by
 unfold slices_Equal
 refine Tot.iteF (by simp [hl]) (Tot.bindRng a.length (fun k (_:Unit)=>((k:Nat):Int)) (fun k _=>a.take k=b.take k) (fun x=>match x with | .inl _=>True | .inr _=>a=b) () rfl (by simp) (fun k u hk hb => ?_) (fun u hb => ?_) (fun x hx => ?_))
 ·have hw:w64 ((k:Int)+1)=((k+1:Nat):Int):=by rw [w64_id (by omega) (by omega)];rfl
  have hk2:k<b.length:=by omega
  unfold slices_Equal_L0
  refine Tot.iteT (by simpa using hk) (Tot.bindIdx k rfl hk (Tot.bindIdx k rfl hk2 (Tot.bindIdx k rfl hk2 (Tot.ite (fun h=>Tot.stop trivial) (fun h=>Tot.step () (by rw [hw]) ?_)))))
  rw [take_snoc hk,take_snoc hk2,hb,bne_eq_false_iff_eq.1 h]
 ·unfold slices_Equal_L0
  refine Tot.iteF (by simp) (Tot.last ?_)
  rw [List.take_length,hl,List.take_length] at hb
  exact hb
 ·cases x with
  | inl _=>exact Tot.some fun e=>(by cases e)
  | inr _=>exact Tot.some fun _=>hx
theorem trusted_tot {cs:List aCert} {an:List Int} {now:Int} (hr:∀ c∈cs,Raw c.fResources) (hl:cs.length≤1000000) (ha:an.length≤1000000000) :
  Tot (origin_Trusted cs an now) (fun t=>t.length=cs.length∧∀ i,t[i]? = some true↔Tr cs an now 15 i):=by
 unfold origin_Trusted
 have hc:((decide (0≤(cs.length:Int))&&decide ((cs.length:Int)≤(cs.length:Int))&&decide ((cs.length:Int)≤(LIM:Int))))=true:=by
  rw [decide_eq_true (by omega),decide_eq_true (Int.le_refl _),decide_eq_true (show(cs.length:Int)≤(LIM:Int) from Int.ofNat_le.2 (show cs.length≤4294967296 by omega))]
  rfl
 refine Tot.chk hc (Tot.chk hc ?_)
 rw [Int.toNat_natCast]
 refine Tot.bindT (trust_L0 hr hl ha) fun p hp => ?_
 obtain⟨p1,p2,p3,p4⟩:=hp
 refine Tot.bindRng 15 (fun k (s:List Bool)=>(((k:Nat):Int),s)) (fun k t=>t.length=cs.length∧∀ i,t[i]? = some true↔Tr cs an now k i) (fun t=>t.length=cs.length∧∀ i,t[i]? = some true↔Tr cs an now 15 i) p.2 rfl ⟨p2,p4⟩ (fun k s hk hs => ?_) (fun s hs => ?_) (fun t ht=>Tot.some ht)
 ·have hw:w64 ((k:Int)+1)=((k+1:Nat):Int):=by rw [w64_id (by omega) (by omega)];rfl
  obtain⟨s1,s2⟩:=hs
  unfold origin_Trusted_L1
  refine Tot.iteT (decide_eq_true (show(k:Int)<15 by omega)) (Tot.bindOf (show ext34_slices_Clone_S s=some s from chk_of (limB (by omega)) rfl) (Tot.bindT (trust_L2 hl p1 p3 s1 s2) fun o ho=>Tot.bindT (equal_tot (by omega) (by omega)) fun b hb=>Tot.ite (fun h=>Tot.stop ⟨ho.1,fun i => ?_⟩) (fun h=>Tot.step o (by rw [hw]) ho)))
  have e:=hb h
  rw [← e,s2]
  have fx:∀ i,Tr cs an now (k+1) i→Tr cs an now k i:=fun i hi=>by rw [← s2,e];exact(ho.2 i).2 hi
  constructor
  ·intro h1
   have:=tr_mono h1 (15-k)
   rwa [show k+(15-k)=15 from by omega] at this
  ·intro h1
   refine tr_fix fx (15-k) i ?_
   rwa [show k+(15-k)=15 from by omega]
 ·unfold origin_Trusted_L1
  exact Tot.iteF rfl (Tot.last hs)
def okO (q:aPrefix) (n:Int) (o:aObject):Bool:=((o.fASN==n)&&(n != (0:Int)))&&(decide (q.fLen≤o.fMax))
def stL (q:aPrefix) (n:Int) (out:List aObject):Int:=if out.any (okO q n)=true then 1 else if out=[] then 0 else 2
theorem stL_zero {q:aPrefix} {n:Int} {out:List aObject}:stL q n out=0↔out=[]:=by
 unfold stL
 constructor
 ·intro h
  split at h
  ·cases h
  ·split at h
   ·assumption
   ·cases h
 ·rintro rfl
  simp
theorem stL_snoc {q:aPrefix} {n:Int} {out:List aObject} {x:aObject}:stL q n (out++[x])=if okO q n x=true then 1 else if stL q n out=0 then 2 else stL q n out:=by
 by_cases h:okO q n x=true
 ·rw [if_pos h]
  unfold stL
  rw [if_pos (by rw [List.any_append];simp [h])]
 ·rw [if_neg h]
  by_cases h2:stL q n out=0
  ·rw [if_pos h2]
   have:=stL_zero.1 h2
   subst this
   unfold stL
   rw [if_neg (by simpa using h),if_neg (by simp)]
  ·rw [if_neg h2]
   have hne:out≠[]:=fun e=>h2 (stL_zero.2 e)
   unfold stL
   rw [List.any_append]
   have h3:[x].any (okO q n)=false:=by simpa using h
   rw [h3,Bool.or_false,if_neg (show ¬ out++[x]=[] by simp),if_neg hne]
noncomputable def cov (q:aPrefix) (l:List aObject):List aObject:=l.filter fun o=>CoversF o.fPrefix q
theorem cov_snoc {q:aPrefix} {l:List aObject} {k:Nat} (hk:k<l.length):cov q (l.take (k+1))=if CoversF l[k].fPrefix q=true then cov q (l.take k)++[l[k]] else cov q (l.take k):=by
 unfold cov
 rw [take_snoc hk,List.filter_append]
 by_cases h:CoversF l[k].fPrefix q=true
 ·rw [if_pos h];simp [h]
 ·rw [if_neg h];simp [h]
theorem cov_len {q:aPrefix} {l:List aObject}:(cov q l).length≤l.length:=List.length_filter_le _ _
theorem state_eq {l:List aObject} {q:aPrefix} (hq:aR q.fAddr) (n:Int) (hl:l.length≤1000000):origin_State l q n=some (stL q n (cov q l),cov q l):=by
 refine Tot.eq ?_
 unfold origin_State
 refine Tot.bindRng l.length (fun k (_:Unit)=>(stL q n (cov q (l.take k)),((k:Nat):Int),cov q (l.take k))) (fun _ _=>True) (fun p=>p=(stL q n (cov q l),cov q l)) () rfl trivial (fun k _ hk _ => ?_) (fun _ _ => ?_) (fun p hp=>by subst hp;exact Tot.some rfl)
 ·have hw:w64 ((k:Int)+1)=((k+1:Nat):Int):=by rw [w64_id (by omega) (by omega)];rfl
  unfold origin_State_L0
  refine Tot.iteT (by simpa using hk) (Tot.jnR (fun m:Int×List aObject=>m=(stL q n (cov q (l.take (k+1))),cov q (l.take (k+1)))) (fun j hj => ?_) (fun m hm=>Tot.step () (by rw [hm,hw]) trivial))
  rw [cov_snoc hk] at hj
  refine Tot.bindIdx k rfl hk (Tot.bindOf (covers_eq _ hq) (Tot.ite (fun h=>hj _ ?_) (fun h => ?_)))
  ·have h:CoversF l[k].fPrefix q=false:=by simpa using h
   rw [if_neg (by rw [h];simp)]
  ·have h:CoversF l[k].fPrefix q=true:=by simpa using h
   rw [if_pos h,stL_snoc] at hj
   have hlen:(cov q (l.take k)++[l[k]]).length≤4000000000:=by
    have:=cov_len (q:=q) (l:=l.take k)
    rw [List.length_take] at this
    simp only [List.length_append,List.length_cons,List.length_nil]
    omega
   refine Tot.chk (limB hlen) (Tot.ite (fun h2=>hj _ ?_) (fun h2=>Tot.ite (fun h3=>hj _ ?_) (fun h3=>hj _ ?_)))
   ·rw [if_pos (show okO q n l[k]=true from h2)]
   ·rw [if_neg (show ¬ okO q n l[k]=true by unfold okO;rw [h2];simp),if_pos (beq_iff_eq.1 h3)]
   ·rw [if_neg (show ¬ okO q n l[k]=true by unfold okO;rw [h2];simp),if_neg (beq_eq_false_iff_ne.1 h3)]
 ·unfold origin_State_L0
  refine Tot.iteF (by simp) (Tot.last ?_)
  rw [List.take_length]
def e8:aPrefix:=aPrefix.mk (aAddr.mk false 0 167772160) 8
def e16:aPrefix:=aPrefix.mk (aAddr.mk false 0 167837696) 16
theorem four_n (n:Nat):nA (aAddr.mk false 0 (n:Int))=n:=by unfold nA;simp
theorem e8_n:nA e8.fAddr=167772160:=four_n 167772160
theorem e16_n:nA e16.fAddr=167837696:=four_n 167837696
theorem e8_fr:fr e8=24:=by unfold fr wid e8;simp
theorem e16_fr:fr e16=16:=by unfold fr wid e16;simp
theorem e8_V:pV e8:=by
 refine⟨aV_four (n:=167772160) (by decide) (by decide),by decide,by decide,?_⟩
 have e:wid e8.fAddr.fV6-e8.fLen.toNat=24:=e8_fr
 rw [e,e8_n]
 unfold cut
 decide
theorem e16_V:pV e16:=by
 refine⟨aV_four (n:=167837696) (by decide) (by decide),by decide,by decide,?_⟩
 have e:wid e16.fAddr.fV6-e16.fLen.toNat=16:=e16_fr
 rw [e,e16_n]
 unfold cut
 decide
theorem one_1:xlaw22_awake_1 0 8=some e8:=by decide +kernel
theorem one_2:xlaw22_awake_1 1 16=some e16:=by decide +kernel
theorem of_ex {p:aPrefix} (hp:pV p):∃ r,xref21_Of [p] []=some (r,0)∧VRes r∧(∀ n,cA r n↔rk p.fAddr≤n∧n≤rk (LastF p))∧(∀ n,¬ cS r n):=by
 obtain⟨x,e,h1,_⟩:=rof_tot (ps:=[p]) (ss:=[]) (fun q hq=>by rw [List.mem_singleton.1 hq];exact hp.addr.1) (by simp) (by simp)
 obtain⟨a,s,o,rfl⟩:=h1 ⟨fun q hq=>by rw [List.mem_singleton.1 hq];exact hp,fun x hx=>by cases hx⟩
 have la:=o.la
 have ls:=o.ls
 simp only [List.length_cons,List.length_nil] at la ls
 have e2:LimF a s=(aResources.mk a s,0):=by unfold LimF;rw [if_neg (by omega)]
 rw [e2] at e
 refine⟨_,e,⟨o.av,o.va,o.sv,o.vs,by simp only;omega,by simp only;omega⟩,fun n => ?_,fun n hn => ?_⟩
 ·have h:=o.ia n
  simp only [List.map_cons,List.map_nil] at h
  rw [inI_one] at h
  exact h
 ·have:=(o.is n).1 hn
  exact inI_nil this
theorem has_one {r:aResources} (hr:VRes r) {p:aPrefix} (hp:pV p) (h:∀ n,cA r n↔rk p.fAddr≤n∧n≤rk (LastF p)):HasF r.fAddrs p:=by
 have hfl:=rk_first_last hp
 obtain⟨y,hy,h1,h2⟩:=(h (rk p.fAddr)).2 ⟨Nat.le_refl _,hfl⟩
 obtain⟨y',hy',h1',h2'⟩:=(h (rk (LastF p))).2 ⟨hfl,Nat.le_refl _⟩
 obtain⟨x,hx,rfl⟩:=List.mem_map.1 hy
 have:(ivA x).2≤rk (LastF p):=by
  have hok:=hr.va.1 _ hy
  exact((h (ivA x).2).1 ⟨_,hy,hok,Nat.le_refl _⟩).2
 have e:rk (LastF p)≤(ivA x).2:=by
  rcases Nat.lt_or_ge (ivA x).2 (rk (LastF p)) with c | c
  ·exfalso
   -- the next number would be in it too, but lists are apart
   obtain⟨z,hz,z1,z2⟩:=(h ((ivA x).2+1)).2 ⟨by omega,by omega⟩
   have hxz:=hr.va.2
   obtain⟨i,hi,ei⟩:=List.getElem_of_mem hy
   obtain⟨j,hj,ej⟩:=List.getElem_of_mem hz
   have hzz:=hr.va.1 _ hz
   rcases Nat.lt_trichotomy i j with g | g | g
   ·have:=List.pairwise_iff_getElem.1 hxz i j hi hj g
    rw [ei,ej] at this
    omega
   ·subst g
    rw [ei] at ej
    subst ej
    omega
   ·have:=List.pairwise_iff_getElem.1 hxz j i hj hi g
    rw [ei,ej] at this
    have:=hr.va.1 _ hy
    omega
  ·exact c
 exact⟨x,hx,h1,e⟩
structure FormedO (s:aSigned) (o:aObject):Prop where
 a:o.fASN=s.fASN
 v:pV o.fPrefix
 l:o.fPrefix.fLen≤o.fMax
 m:o.fMax≤wid o.fPrefix.fAddr.fV6
structure FormedP (s:aSigned):Prop where
 a0:0≤s.fASN
 a1:s.fASN≤4294967295
 n:s.fObjects.length≤512
 o:∀ x∈s.fObjects,FormedO s x
theorem formed1_tot {o:aObject} (s:aSigned) (ho:aR o.fPrefix.fAddr):Tot (origin_formed_1 o s) (fun b=>b=false↔FormedO s o):=by
 unfold origin_formed_1
 refine Tot.jnR (fun b:Bool=>b=false↔FormedO s o) (fun j hj=>Tot.ite (fun h=>hj _ ⟨fun e=>(by cases e),fun e => ?_⟩) (fun h => ?_)) (fun b hb=>Tot.some hb)
 ·rw [e.a] at h;simp at h
 ·refine Tot.bindOf (pvalid_eq ho) (Tot.ite (fun h2=>hj _ ⟨fun e=>(by cases e),fun e => ?_⟩) (fun h2 => ?_))
  ·rw [validF_iff.2 e.v] at h2
   simp only [Bool.not_true,Bool.false_or,decide_eq_true_eq] at h2
   have:=e.l
   omega
  ·simp only [Bool.or_eq_false_iff,Bool.not_eq_false',decide_eq_false_iff_not] at h2
   have hw:origin_width o.fPrefix=some ((wid o.fPrefix.fAddr.fV6:Nat):Int):=by
    unfold origin_width wid
    cases o.fPrefix.fAddr.fV6<;>rfl
   refine Tot.bindOf hw (hj _ ?_)
   rw [decide_eq_false_iff_not]
   exact⟨fun e=>⟨by simpa using h,validF_iff.1 h2.1,by omega,by omega⟩,fun e=>by have:=e.m;omega⟩
theorem formed_tot {s:aSigned} (ho:∀ o∈s.fObjects,aR o.fPrefix.fAddr):Tot (origin_formed s) (fun b=>b=true↔FormedP s):=by
 unfold origin_formed
 refine Tot.jnR (fun b:Bool=>b=true↔FormedP s) (fun j hj=>Tot.ite (fun h => ?_) (fun h=>hj _ ⟨fun e=>(by cases e),fun e => ?_⟩)) (fun b hb=>Tot.some hb)
 ·simp only [Bool.and_eq_true,decide_eq_true_eq] at h
  unfold slices_ContainsFunc_2 slices_IndexFunc_2
  refine Tot.bindT (P':=fun b:Bool=>b=false↔∀ x∈s.fObjects,FormedO s x) (Tot.bindT (P':=fun i:Int=>(0≤i∧¬ ∀ x∈s.fObjects,FormedO s x)∨(i = -1∧∀ x∈s.fObjects,FormedO s x)) ?_ fun i hi=>Tot.some ?_) fun b hb=>hj _ ?_
  ·refine Tot.bindRng s.fObjects.length (fun k (_:Unit)=>((k:Nat):Int)) (fun k _=>∀ x∈s.fObjects.take k,FormedO s x) (fun y=>match y with | .inl i=>0≤i∧¬ ∀ x∈s.fObjects,FormedO s x | .inr _=>∀ x∈s.fObjects,FormedO s x) () rfl (by simp) (fun k b hk hb => ?_) (fun b hb => ?_) (fun y hy => ?_)
   ·unfold slices_IndexFunc_2_L0
    have hw:w64 ((k:Int)+1)=((k+1:Nat):Int):=by rw [w64_id (by omega) (by omega)];rfl
    refine Tot.iteT (by simpa using hk) (Tot.bindIdx k rfl hk (Tot.bindT (formed1_tot s (ho _ (List.getElem_mem hk))) fun b hb2=>Tot.ite (fun h=>Tot.stop ⟨by omega,fun e => ?_⟩) (fun h=>Tot.step () (by rw [hw]) fun x hx => ?_)))
    ·rw [hb2.2 (e _ (List.getElem_mem hk))] at h;cases h
    ·rw [take_snoc hk] at hx
     rcases List.mem_append.1 hx with hx | hx
     ·exact hb x hx
     ·rw [List.mem_singleton.1 hx];exact hb2.1 h
   ·unfold slices_IndexFunc_2_L0
    refine Tot.iteF (by simp) (Tot.last ?_)
    rw [List.take_length] at hb
    exact hb
   ·cases y with
    | inl i=>exact Tot.some (.inl hy)
    | inr _=>exact Tot.some (.inr ⟨rfl,hy⟩)
  ·rcases hi with ⟨h1,h2⟩ | ⟨h1,h2⟩
   ·rw [decide_eq_true h1]
    exact⟨fun e=>(by cases e),fun e=>(h2 e).elim⟩
   ·subst h1
    exact⟨fun _=>h2,fun _=>rfl⟩
  ·rw [Bool.not_eq_true',hb]
   exact⟨fun e=>⟨h.1.1,h.1.2,by omega,e⟩,fun e=>e.o⟩
 ·have:=e.a0
  have:=e.a1
  have:=e.n
  rw [decide_eq_true e.a0,decide_eq_true e.a1,decide_eq_true (show(s.fObjects.length:Int)≤512 by omega)] at h
  cases h
def HoldP (r:aResources) (s:aSigned):Prop:=∀ o∈s.fObjects,HasF r.fAddrs o.fPrefix
theorem holds_tot {r:aResources} (hr:VRes r) {s:aSigned} (ho:∀ o∈s.fObjects,pV o.fPrefix) (hl:s.fObjects.length≤1000000):Tot (origin_holds r s) (fun b=>b=true↔HoldP r s):=by
 have:=hr.la
 unfold origin_holds slices_ContainsFunc_3 slices_IndexFunc_3
 refine Tot.bindT (P':=fun b:Bool=>b=false↔HoldP r s) (Tot.bindT (P':=fun i:Int=>(0≤i∧¬ HoldP r s)∨(i = -1∧HoldP r s)) ?_ fun i hi=>Tot.some ?_) fun b hb=>Tot.some ?_
 ·refine Tot.bindRng s.fObjects.length (fun k (_:Unit)=>((k:Nat):Int)) (fun k _=>∀ x∈s.fObjects.take k,HasF r.fAddrs x.fPrefix) (fun y=>match y with | .inl i=>0≤i∧¬ HoldP r s | .inr _=>HoldP r s) () rfl (by simp) (fun k b hk hb => ?_) (fun b hb => ?_) (fun y hy => ?_)
  ·unfold slices_IndexFunc_3_L0 origin_holds_1
   have hw:w64 ((k:Int)+1)=((k+1:Nat):Int):=by rw [w64_id (by omega) (by omega)];rfl
   have hk':=List.getElem_mem hk
   refine Tot.iteT (by simpa using hk) (Tot.bindIdx k rfl hk (Tot.bindT (P':=fun b:Bool=>b=false↔HasF r.fAddrs s.fObjects[k].fPrefix) (Tot.bindT (has_eq hr.av (by omega) (ho _ hk')) fun b hb2=>Tot.some (by rw [← hb2];cases b<;>simp)) fun b hb2=>Tot.ite (fun h=>Tot.stop ⟨by omega,fun e => ?_⟩) (fun h=>Tot.step () (by rw [hw]) fun x hx => ?_)))
   ·rw [hb2.2 (e _ hk')] at h;cases h
   ·rw [take_snoc hk] at hx
    rcases List.mem_append.1 hx with hx | hx
    ·exact hb x hx
    ·rw [List.mem_singleton.1 hx];exact hb2.1 h
  ·unfold slices_IndexFunc_3_L0
   refine Tot.iteF (by simp) (Tot.last ?_)
   rw [List.take_length] at hb
   exact hb
  ·cases y with
   | inl i=>exact Tot.some (.inl hy)
   | inr _=>exact Tot.some (.inr ⟨rfl,hy⟩)
 ·rcases hi with ⟨h1,h2⟩ | ⟨h1,h2⟩
  ·rw [decide_eq_true h1]
   exact⟨fun e=>(by cases e),fun e=>(h2 e).elim⟩
  ·subst h1
   exact⟨fun _=>h2,fun _=>rfl⟩
 ·rw [← hb]
  cases b<;>simp
theorem ordered_one {o:aObject} (ho:aR o.fPrefix.fAddr):irr_Ordered [o]=some [o]:=by
 unfold irr_Ordered
 refine bind_of (show ext73_slices_Clone_R [o]=some [o] from chk_of (limB (by simp)) rfl) ?_
 have hcmp:∃ z,irr_Compare o o=some z∧¬ z<0:=by
  unfold irr_Compare
  suffices h:Tot ((prefix_Cmp o.fPrefix o.fPrefix).bind fun r1=>(cmp_Compare o.fMax o.fMax).bind fun r2=>(cmp_Compare o.fASN o.fASN).bind fun r3=>(cmp_Or [r1,r2,r3]).bind fun r4=>some r4) (fun z=>¬ z<0) from h
  have e1:cmpP o.fPrefix o.fPrefix=0:=(cmpP_zero ho ho).2 rfl
  refine Tot.bindOf (pcmp_eq ho ho) (Tot.bindOf (compare_eq _ _) (Tot.bindOf (compare_eq _ _) (Tot.bindOf (or_eq _ (by simp)) (Tot.some ?_))))
  rw [e1]
  simp [orL]
 obtain⟨z,ez,hz⟩:=hcmp
 obtain⟨r,er,hp,_⟩:=sortF_tot (xs:=[o]) (cmp:=fun x y=>irr_Compare x y) (fun _ _=>z) (fun x hx y hy=>by rw [List.mem_singleton.1 hx,List.mem_singleton.1 hy];exact ez) (fun _ _=>hz) (fun _ _ _ _ _ _ h=>(hz h).elim) (fun _ _ _ _ _ _ _ _=>hz) (by simp)
 have hr:r=[o]:=List.perm_singleton.1 hp
 subst hr
 refine bind_of (show ext74_slices_SortFunc_irr_Compare [o]=some [o] from er) (chk_of (by simp) ?_)
 refine bind_of (show slices_Compact [o]=some [o] from ?_) rfl
 unfold slices_Compact
 rfl
def c1 (r:aResources):aCert:=aCert.mk 1 1 0 9 r
def c2 (r:aResources):aCert:=aCert.mk 2 1 0 9 r
def s0:aSigned:=aSigned.mk 2 7 0 9 [aObject.mk e16 16 7]
theorem raw_of {r:aResources} (h:VRes r):Raw r:=⟨h.R,by have:=h.la;omega,by have:=h.ls;omega⟩
theorem pay_ex {r q:aResources} (hr:VRes r) (hq:VRes q) (hs:Sub (c1 r) (c2 q)) (hh:HasF q.fAddrs e16):origin_Payloads [c1 r,c2 q] [s0] [1] 5=some ([aObject.mk e16 16 7],0):=by
 refine Tot.eq ?_
 unfold origin_Payloads
 refine Tot.iteF (by simp) ?_
 have hraw:∀ c∈[c1 r,c2 q],Raw c.fResources:=fun c hc=>by
  simp only [List.mem_cons,List.not_mem_nil,or_false] at hc
  rcases hc with rfl | rfl
  ·exact raw_of hr
  ·exact raw_of hq
 refine Tot.bindT (trusted_tot (now:=5) hraw (by simp) (an:=[1]) (by simp)) fun t ht => ?_
 obtain⟨t1,t2⟩:=ht
 have h0:Tr [c1 r,c2 q] [1] 5 0 0:=.base rfl ⟨show(0:Int)≤5 by decide,show(5:Int)≤9 by decide,hr⟩ rfl (List.mem_cons_self ..)
 have h1:Tr [c1 r,c2 q] [1] 5 1 1:=.iss (c:=c2 q) (d:=c1 r) (j:=0) rfl rfl ⟨show(0:Int)≤5 by decide,show(5:Int)≤9 by decide,hq⟩ (show(1:Int)≠2 by decide) h0 rfl hs
 have g0:=(t2 0).2 (tr_mono h0 15)
 have g1:=(t2 1).2 (tr_mono h1 14)
 have et:t=[true,true]:=by
  refine List.ext_getElem? fun i => ?_
  match i with
  | 0=>exact g0
  | 1=>exact g1
  | i+2=>rw [List.getElem?_eq_none (by simp only [List.length_cons,List.length_nil] at t1;omega),List.getElem?_eq_none (by simp)]
 subst et
 have hform:FormedP s0:=⟨show(0:Int)≤7 by decide,show(7:Int)≤4294967295 by decide,show(1:Nat)≤512 by decide,fun x hx=>by
  rw [List.mem_singleton.1 hx]
  exact⟨rfl,e16_V,show(16:Int)≤16 by decide,show(16:Int)≤((wid false:Nat):Int) by decide⟩⟩
 have hex:origin_explain [c1 r,c2 q] [true,true] s0 5=some 0:=by
  refine Tot.eq ?_
  unfold origin_explain
  refine Tot.bindT (formed_tot (s:=s0) (fun o ho=>by rw [List.mem_singleton.1 ho];exact e16_V.addr.1)) fun b hb => ?_
  have hb:b=true:=hb.2 hform
  subst hb
  refine Tot.iteF rfl (Tot.bindOf (show origin_current s0.fFrom s0.fUntil 5=some true from rfl) (Tot.iteF rfl ?_))
  have a1:origin_explain_L0 [c1 r,c2 q] [true,true] s0 (11,0)=some (.inr (11,1)):=by
   refine Tot.eq ?_
   unfold origin_explain_L0
   have e1:idx [c1 r,c2 q] 0=some (c1 r):=rfl
   refine Tot.iteT rfl (Tot.bindOf e1 (Tot.jn (Tot.iteT rfl (Tot.some ?_))))
   show Sum.inr ((11:Int),w64 (0+1))=_
   rw [w64_id (by decide) (by decide)]
   rfl
  have a2:origin_explain_L0 [c1 r,c2 q] [true,true] s0 (11,1)=some (.inl (.inl ())):=by
   refine Tot.eq ?_
   unfold origin_explain_L0
   have e1:idx [c1 r,c2 q] 1=some (c2 q):=rfl
   have e2:idx [true,true] 1=some true:=rfl
   refine Tot.iteT rfl (Tot.bindOf e1 (Tot.jn (Tot.iteF rfl (Tot.bindOf e2 (Tot.iteF rfl (Tot.bindT (holds_tot hq (s:=s0) (fun o ho=>by rw [List.mem_singleton.1 ho];exact e16_V) (by decide)) fun b hb => ?_))))))
   have hb:b=true:=hb.2 fun o ho=>by rw [List.mem_singleton.1 ho];exact hh
   subst hb
   exact Tot.iteF rfl (Tot.some rfl)
  refine Tot.bindOf (loop_next a1 (loop_out a2)) (Tot.some rfl)
 refine Tot.bindRng 1 (fun k (s:List aObject)=>(((k:Nat):Int),s)) (fun k s=>s=if k=0 then [] else [aObject.mk e16 16 7]) (fun l=>l=[aObject.mk e16 16 7]) [] rfl rfl (fun k b hk hb => ?_) (fun b hb => ?_) (fun l hl => ?_)
 ·have hk:k=0:=by omega
  subst hk
  subst hb
  unfold origin_Payloads_L0
  have e1:idx [s0] 0=some s0:=rfl
  refine Tot.iteT rfl (Tot.bindOf e1 (Tot.bindOf hex (Tot.jn (Tot.iteT rfl (Tot.chk (by decide) (Tot.step [aObject.mk e16 16 7] (by rw [w64_id (by decide) (by decide)];rfl) rfl))))))
 ·unfold origin_Payloads_L0
  exact Tot.iteF (decide_eq_false (show ¬ ((1:Nat):Int)<((1:Nat):Int) by omega)) (Tot.last hb)
 ·subst hl
  refine Tot.bindOf (ordered_one (o:=aObject.mk e16 16 7) e16_V.addr.1) (Tot.iteF rfl (Tot.some rfl))
theorem e_rk:rk e8.fAddr=167772160∧rk (LastF e8)=184549375∧rk e16.fAddr=167837696∧rk (LastF e16)=167903231:=by
 have l1:=last_num e8_V
 have l2:=last_num e16_V
 rw [e8_fr,e8_n] at l1
 rw [e16_fr,e16_n] at l2
 have v1:(LastF e8).fV6=false:=by unfold LastF;rw [mkA_v6];rfl
 have v2:(LastF e16).fV6=false:=by unfold LastF;rw [mkA_v6];rfl
 refine⟨?_,?_,?_,?_⟩
 ·show(if e8.fAddr.fV6=true then _ else nA e8.fAddr)=_
  rw [if_neg (by decide),e8_n]
 ·unfold rk
  rw [v1,if_neg (by decide),l1]
 ·show(if e16.fAddr.fV6=true then _ else nA e16.fAddr)=_
  rw [if_neg (by decide),e16_n]
 ·unfold rk
  rw [v2,if_neg (by decide),l2]
theorem awake_eq:xlaw22_awake=some true:=by
 refine Tot.eq ?_
 unfold xlaw22_awake
 obtain⟨r,er,hr,ra,rs⟩:=of_ex e8_V
 obtain⟨q,eq,hq,qa,qs⟩:=of_ex e16_V
 obtain⟨k1,k2,k3,k4⟩:=e_rk
 have hs:Sub (c1 r) (c2 q):=⟨fun n hn=>(ra n).2 (by have:=(qa n).1 hn;omega),fun n hn=>(qs n hn).elim⟩
 have hcov:cov e16 [aObject.mk e16 16 7]=[aObject.mk e16 16 7]:=by
  unfold cov
  simp [covers_self e16_V]
 have st:∀ n,origin_State [aObject.mk e16 16 7] e16 n=some (stL e16 n [aObject.mk e16 16 7],[aObject.mk e16 16 7]):=fun n=>by
  rw [state_eq e16_V.addr.1 n (by simp),hcov]
 refine Tot.bindOf one_1 (Tot.bindOf er (Tot.bindOf one_2 (Tot.bindOf eq (Tot.bindOf one_2 (Tot.bindOf (pay_ex hr hq hs (has_one hq e16_V qa)) (Tot.bindOf one_2 (Tot.bindOf (st 7) (Tot.bindOf one_2 (Tot.bindOf (st 8) (Tot.some ?_))))))))))
 have z1:stL e16 7 [aObject.mk e16 16 7]=1:=by
  unfold stL okO
  rw [if_pos (by decide)]
 have z2:stL e16 8 [aObject.mk e16 16 7]=2:=by
  unfold stL okO
  rw [if_neg (by decide),if_neg (by simp)]
 rw [z1,z2]
 rfl
theorem obj_tot (d:xmake_Deck) (hd:DeckOk d):Tot (xmake_Deck_Object d) (fun x=>pV x.1.fPrefix∧DeckOk x.2):=by
 unfold xmake_Deck_Object
 refine Tot.bindT (prefix_tot _ hd) fun p hp=>Tot.jnR (fun _:Int=>True) (fun j hj=>Tot.ite (fun _=>hj _ trivial) (fun _=>hj _ trivial)) (fun m _ => ?_)
 refine Tot.bindT (next_tot _ hp.2 4 (by decide) (by decide)) fun x hx=>Tot.bindT (next_tot _ hx.2.2 4 (by decide) (by decide)) fun y hy=>Tot.bindT (next_tot _ hy.2.2 5 (by decide) (by decide)) fun z hz=>Tot.some ⟨hp.1,hz.2.2⟩
end Go.Proofs.YtgfoabcickjphaaGreatDoor

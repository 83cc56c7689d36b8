/- The law of trust, in plain Lean. -/
import Derived.Test.YtgfoabcickjphaaGreatDoorPureRT
namespace Go.Proofs.YtgfoabcickjphaaGreatDoor
open Go Go.Vc
theorem light_tot {l:List aCert} (hl:l.length≤9223372036854775807):Tot (xlaw22_light l) (fun b=>b=true→l.length≤20∧∀ c∈l,c.fResources.fAddrs.length≤20∧c.fResources.fASNs.length≤20):=by
 unfold xlaw22_light
 refine Tot.bindRng l.length (fun k (_:Unit)=>((k:Nat):Int)) (fun k _=>∀ c∈l.take k,c.fResources.fAddrs.length≤20∧c.fResources.fASNs.length≤20) (fun x=>match x with | .inl _=>True | .inr _=>∀ c∈l,c.fResources.fAddrs.length≤20∧c.fResources.fASNs.length≤20) () rfl (by simp) (fun k b hk hb => ?_) (fun b hb => ?_) (fun x hx => ?_)
 ·unfold xlaw22_light_L0
  have hw:w64 ((k:Int)+1)=((k+1:Nat):Int):=by rw [w64_id (by omega) (by omega)];rfl
  refine Tot.iteT (by simpa using hk) (Tot.bindIdx k rfl hk (Tot.ite (fun h=>Tot.stop trivial) (fun h=>Tot.step () (by rw [hw]) fun c hc => ?_)))
  rw [take_snoc hk] at hc
  rcases List.mem_append.1 hc with e | e
  ·exact hb c e
  ·rw [List.mem_singleton.1 e]
   simp only [Bool.or_eq_false_iff,decide_eq_false_iff_not] at h
   omega
 ·unfold xlaw22_light_L0
  refine Tot.iteF (by simp) (Tot.last ?_)
  rw [List.take_length] at hb
  exact hb
 ·cases x with
  | inl _=>exact Tot.some fun e=>(by cases e)
  | inr _=>exact Tot.some fun e=>⟨by have:=of_decide_eq_true e;omega,hx⟩
theorem tl_L2 {a4:Int} {r5:List aCert×List aSigned×Int×xmake_Deck} {cs:List aCert} {an:List Int} (hr:∀ c∈cs,Raw c.fResources) (hl:cs.length≤1000000) (ha:an.length≤1000000000) :
  Tot (loop (xlaw22_OriginTrusts_L2 a4 r5 cs an) (0:Int)) (fun x=>x = .inr ()):=by
 refine Tot.rng 2 (fun k (_:Unit)=>((k:Nat):Int)) (fun _ _=>True) _ () rfl trivial (fun k _ hk _ => ?_) (fun _ _ => ?_)
 ·have hw:w64 ((k:Int)+1)=((k+1:Nat):Int):=by rw [w64_id (by omega) (by omega)];rfl
  unfold xlaw22_OriginTrusts_L2
  refine Tot.iteT (decide_eq_true (show(k:Int)<2 by omega)) (Tot.bindIdx k rfl hk ?_)
  obtain⟨t,e1,e2,e3,_⟩:=trust_both (now:=[a4,r5.2.2.1][k]) hr hl ha
  exact Tot.bindOf e1 (Tot.bindOf e2 (Tot.bindOf (sameB t (by omega)) (Tot.iteF rfl (Tot.step () (by rw [hw]) trivial))))
 ·unfold xlaw22_OriginTrusts_L2
  exact Tot.iteF rfl (Tot.last rfl)
theorem tl_L1 {a2 an:List Int} {a4:Int} {r5:List aCert×List aSigned×Int×xmake_Deck} {cs:List aCert} (hr:∀ c∈cs,Raw c.fResources) (hl:cs.length≤1000000) (ha:an.length≤1000000000) (ha2:a2.length≤1000000000) :
  Tot (loop (xlaw22_OriginTrusts_L1 a2 a4 r5 cs an) (0:Int)) (fun x=>x = .inr ()):=by
 refine Tot.rng 2 (fun k (_:Unit)=>((k:Nat):Int)) (fun _ _=>True) _ () rfl trivial (fun k _ hk _ => ?_) (fun _ _ => ?_)
 ·have hw:w64 ((k:Int)+1)=((k+1:Nat):Int):=by rw [w64_id (by omega) (by omega)];rfl
  have hall:∀ l∈[a2,an],l.length≤1000000000:=fun l hl=>by
   simp only [List.mem_cons,List.not_mem_nil,or_false] at hl
   rcases hl with rfl | rfl
   ·exact ha2
   ·exact ha
  unfold xlaw22_OriginTrusts_L1
  refine Tot.iteT (decide_eq_true (show(k:Int)<2 by omega)) (Tot.bindIdx k rfl hk (Tot.bindT (tl_L2 hr hl (hall _ (List.getElem_mem (show k < [a2,an].length from hk)))) ?_))
  rintro _ rfl
  exact Tot.step () (by rw [hw]) trivial
 ·unfold xlaw22_OriginTrusts_L1
  exact Tot.iteF rfl (Tot.last rfl)
def hC (x:aCert):Prop:=I64 x.fKey∧I64 x.fIssuer∧I64 x.fFrom∧I64 x.fUntil∧hRes x.fResources∧True
theorem trusts_law (a0:List aCert) (h0:(∀ y∈a0,hC y)∧a0.length≤maxLen) (a1:List Int) (h1:(∀ y∈a1,I64 y)∧a1.length≤maxLen) (a2:List Int) (h2:(∀ y∈a2,I64 y)∧a2.length≤maxLen) (a3:Int) (_:I64 a3) (a4:Int) (_:I64 a4):xlaw22_OriginTrusts a0 a1 a2 a3 a4=some true:=by
 refine Tot.eq ?_
 have l0:=h0.2
 unfold maxLen at h1 h2 l0
 unfold xlaw22_OriginTrusts
 refine Tot.bindT (light_tot (by omega)) fun b hb=>Tot.ite (fun _=>Tot.bindOf awake_eq (Tot.some rfl)) (fun hc => ?_)
 simp only [Bool.or_eq_false_iff,Bool.not_eq_false',decide_eq_false_iff_not] at hc
 obtain⟨g1,g2⟩:=hb hc.1
 have hraw:∀ c∈a0,Raw c.fResources:=fun c hcm=>by
  have hr:=(h0.1 c hcm).2.2.2.2.1
  have:=g2 c hcm
  exact⟨fun x hx=>⟨hA_R (hr.1.1 x hx).1,hA_R (hr.1.1 x hx).2.1⟩,by omega,by omega⟩
 refine Tot.bindOf (show xmake_New a1=some ⟨a1,0⟩ from rfl) (Tot.bindT (setting_tot _ (new_ok a1 (by omega))) fun r hr => ?_)
 refine Tot.bindRng 2 (fun k (_:Unit)=>((k:Nat):Int)) (fun _ _=>True) (fun x=>x = .inr ()) () rfl trivial (fun k _ hk _ => ?_) (fun _ _ => ?_) ?_
 ·have hw:w64 ((k:Int)+1)=((k+1:Nat):Int):=by rw [w64_id (by omega) (by omega)];rfl
  have hall:∀ l∈[a0,r.1],(∀ c∈l,Raw c.fResources)∧l.length≤1000000:=fun l hl=>by
   simp only [List.mem_cons,List.not_mem_nil,or_false] at hl
   rcases hl with rfl | rfl
   ·exact⟨hraw,by omega⟩
   ·exact⟨cs_raw hr.1.1,by have:=hr.1.2;omega⟩
  obtain⟨q1,q2⟩:=hall _ (List.getElem_mem (show k < [a0,r.1].length from hk))
  unfold xlaw22_OriginTrusts_L0
  refine Tot.iteT (decide_eq_true (show(k:Int)<2 by omega)) (Tot.bindIdx k rfl hk (Tot.bindT (anchors_tot a3) fun an han=>Tot.bindT (tl_L1 q1 q2 (by omega) (by omega)) ?_))
  rintro _ rfl
  exact Tot.step () (by rw [hw]) trivial
 ·unfold xlaw22_OriginTrusts_L0
  exact Tot.iteF rfl (Tot.last rfl)
 ·rintro _ rfl
  exact Tot.bindOf awake_eq (Tot.some rfl)
end Go.Proofs.YtgfoabcickjphaaGreatDoor

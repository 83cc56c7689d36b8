/- The law of times, in plain Lean. -/
import Derived.Test.YtgfoabcickjphaaGreatDoorPureP
import Derived.Test.YtgfoabcickjphaaGreatDoorVcMP
namespace Go.Proofs.YtgfoabcickjphaaGreatDoor
open Go Go.Vc
theorem key48 : KeyLaw keq48 := fun a b => (oeq_iff (a := a) (b := b))
structure Want (m : List (aObject × Bool)) (P : aObject → Prop) : Prop where
 n : (mkeys m).Nodup
 k : ∀ o, o ∈ mkeys m ↔ P o
 v : ∀ o, o ∈ mkeys m → mget keq48 m o = some true
theorem want_put {m : List (aObject × Bool)} {P : aObject → Prop} (h : Want m P) (x : aObject) : Want (mput keq48 m x true) (fun o => P o ∨ o = x) := by
 have hk : ∀ o, o ∈ mkeys (mput keq48 m x true) ↔ P o ∨ o = x := fun o => by
  rw [mkeys_mput key48]
  by_cases c : x ∈ mkeys m
  ·rw [if_pos c, h.k]
   exact ⟨.inl, fun e => e.elim id fun e => by rw [e]; exact (h.k x).1 c⟩
  ·rw [if_neg c, List.mem_append, List.mem_singleton, h.k]
 refine ⟨mkeys_nodup key48 _ _ h.n, hk, fun o ho => ?_⟩
 rw [mget_mput key48]
 by_cases e : o = x
 ·rw [if_pos e]
 ·rw [if_neg e]
  exact h.v o ((h.k o).2 (((hk o).1 ho).resolve_right e))
theorem want_iff {m : List (aObject × Bool)} {P Q : aObject → Prop} (h : Want m P) (e : ∀ o, P o ↔ Q o) : Want m Q := ⟨h.n, fun o => (h.k o).trans (e o), h.v⟩
theorem ti_L2 {s : aSigned} (hl : s.fObjects.length ≤ 1000) {m : List (aObject × Bool)} {P : aObject → Prop} (h : Want m P) :
  Tot (loop (xlaw22_OriginTimes_L2 s) ((0 : Int), m)) (fun r => Want r (fun o => P o ∨ o ∈ s.fObjects)) := by
 refine Tot.rng s.fObjects.length (fun k (b : List (aObject × Bool)) => (((k : Nat) : Int), b)) (fun k b => Want b (fun o => P o ∨ o ∈ s.fObjects.take k)) _ m rfl (want_iff h fun o => by simp) (fun k b hk hb => ?_) (fun b hb => ?_)
 ·have hw : w64 ((k : Int) + 1) = ((k + 1 : Nat) : Int) := by rw [w64_id (by omega) (by omega)]; rfl
  unfold xlaw22_OriginTimes_L2
  refine Tot.iteT (by simpa using hk) (Tot.bindIdx k rfl hk (Tot.step _ (by rw [hw]) (want_iff (want_put hb _) fun o => ?_)))
  rw [take_snoc hk, List.mem_append, List.mem_singleton, or_assoc]
 ·unfold xlaw22_OriginTimes_L2
  refine Tot.iteF (by simp) (Tot.last ?_)
  rw [List.take_length] at hb
  exact hb
theorem ti_L1 {a1 : Int} {r2 : List aCert × List aSigned × Int × xmake_Deck} {an : List Int} (ean : xlaw22_anchors a1 = some an) (han : an.length ≤ 7) (hc : CsOk r2.1) (hl : r2.1.length ≤ 9) (hs : SgOk r2.2.1) (hn : r2.2.1.length ≤ 5) (now : Int) :
  Tot (loop (xlaw22_OriginTimes_L1 a1 r2 now) ((0 : Int), ([] : List (aObject × Bool)))) (fun z => ∃ m, z = .inr m ∧ Want m (fun o => ∃ s ∈ r2.2.1, Good r2.1 an now s ∧ o ∈ s.fObjects)) := by
 refine Tot.rng r2.2.1.length (fun k (b : List (aObject × Bool)) => (((k : Nat) : Int), b)) (fun k b => Want b (fun o => ∃ s ∈ r2.2.1.take k, Good r2.1 an now s ∧ o ∈ s.fObjects)) _ [] rfl ⟨List.nodup_nil, fun o => by simp [mkeys], fun o ho => (by cases ho)⟩ (fun k b hk hb => ?_) (fun b hb => ?_)
 ·have hw : w64 ((k : Int) + 1) = ((k + 1 : Nat) : Int) := by rw [w64_id (by omega) (by omega)]; rfl
  obtain ⟨g1, g2⟩ := hs _ (List.getElem_mem hk)
  have step : ∀ o, (∃ s ∈ r2.2.1.take (k + 1), Good r2.1 an now s ∧ o ∈ s.fObjects) ↔ (∃ s ∈ r2.2.1.take k, Good r2.1 an now s ∧ o ∈ s.fObjects) ∨ (Good r2.1 an now r2.2.1[k] ∧ o ∈ r2.2.1[k].fObjects) := fun o => by
   rw [take_snoc hk]
   constructor
   ·rintro ⟨s, h1, h2⟩
    rcases List.mem_append.1 h1 with h1 | h1
    ·exact .inl ⟨s, h1, h2⟩
    ·rw [List.mem_singleton.1 h1] at h2; exact .inr h2
   ·rintro (⟨s, h1, h2⟩ | h2)
    ·exact ⟨s, List.mem_append_left _ h1, h2⟩
    ·exact ⟨_, List.mem_append_right _ (List.mem_singleton.2 rfl), h2⟩
  have hex : Tot (origin_Explain r2.1 an r2.2.1[k] now) (fun e => e = 0 ↔ Good r2.1 an now r2.2.1[k]) := by
   unfold origin_Explain
   exact Tot.bindT (trusted_tot (now := now) (cs_raw hc) (by omega) (by omega)) fun t ht => Tot.bindT (explain_tot (by omega) ht.1 ht.2 fun o ho => (g1 o ho).addr.1) fun e he => Tot.some he
  unfold xlaw22_OriginTimes_L1
  refine Tot.iteT (by simpa using hk) (Tot.jnR (fun m : List (aObject × Bool) => Want m (fun o => ∃ s ∈ r2.2.1.take (k + 1), Good r2.1 an now s ∧ o ∈ s.fObjects)) (fun j hj => ?_) (fun m hm => Tot.step m (by rw [hw]) hm))
  refine Tot.bindIdx k rfl hk (Tot.bindOf ean (Tot.bindT hex fun e he => Tot.ite (fun h => hj _ (want_iff hb fun o => ?_)) (fun h => ?_)))
  ·have hng : ¬ Good r2.1 an now r2.2.1[k] := fun g => by
    have := he.2 g
    rw [this] at h
    simp at h
   rw [step]
   exact ⟨.inl, fun q => q.elim id fun q => (hng q.1).elim⟩
  ·have hg := he.1 (bne_eq_false_iff_eq.1 h)
   refine Tot.iteF ?_ (Tot.bindT (ti_L2 (by omega) hb) fun m hm => hj _ (want_iff hm fun o => ?_))
   ·rw [Bool.or_eq_false_iff]
    exact ⟨decide_eq_false (by have := hg.f; omega), decide_eq_false (by have := hg.u; omega)⟩
   ·rw [step]
    exact or_congr Iff.rfl ⟨fun q => ⟨hg, q⟩, fun q => q.2⟩
 ·unfold xlaw22_OriginTimes_L1
  refine Tot.iteF (by simp) (Tot.last ⟨b, rfl, ?_⟩)
  rw [List.take_length] at hb
  exact hb
theorem times_law (a0 : List Int) (h0 : (∀ y ∈ a0, I64 y) ∧ a0.length ≤ maxLen) (a1 : Int) (_ : I64 a1) : xlaw22_OriginTimes a0 a1 = some true := by
 refine Tot.eq ?_
 unfold maxLen at h0
 unfold xlaw22_OriginTimes
 refine Tot.bindOf (show xmake_New a0 = some ⟨a0, 0⟩ from rfl) (Tot.bindT (setting_tot _ (new_ok a0 (by omega))) fun r hr => ?_)
 obtain ⟨⟨c1, c2⟩, ⟨s1, s2⟩, _, hd⟩ := hr
 obtain ⟨an, ean, han⟩ := anchors_tot a1
 refine Tot.bindRng 20 (fun k (_ : Unit) => ((k : Nat) : Int)) (fun _ _ => True) (fun x => x = .inr ()) () rfl trivial (fun k _ hk _ => ?_) (fun _ _ => ?_) ?_
 ·have hw : w64 ((k : Int) + 1) = ((k + 1 : Nat) : Int) := by rw [w64_id (by omega) (by omega)]; rfl
  unfold xlaw22_OriginTimes_L0
  refine Tot.iteT (decide_eq_true (show (k : Int) < 20 by omega)) (Tot.bindOf ean (Tot.bindT (payloads_tot (now := (k : Int)) (cs_raw c1) (by omega) (an := an) (by omega) s1 (by omega)) fun p hp => ?_))
  obtain ⟨p1, p2, p3, p4⟩ := hp
  refine Tot.iteF (by rw [p1]; rfl) (Tot.bindT (ti_L1 ean han c1 c2 s1 s2 (k : Int)) ?_)
  rintro _ ⟨m, rfl, hm⟩
  have hlen : m.length = p.1.length := by
   have hp := (List.perm_ext_iff_of_nodup hm.n p2).2 fun o => (hm.k o).trans (p4 o).symm
   have := hp.length_eq
   unfold mkeys at this
   rw [List.length_map] at this
   exact this
  refine Tot.iteF (by simp [hlen]) ?_
  refine Tot.bindRng p.1.length (fun k (_ : Unit) => ((k : Nat) : Int)) (fun _ _ => True) (fun x => x = .inr ()) () rfl trivial (fun i _ hi _ => ?_) (fun _ _ => ?_) ?_
  ·have hw2 : w64 ((i : Int) + 1) = ((i + 1 : Nat) : Int) := by rw [w64_id (by omega) (by omega)]; rfl
   have ho := List.getElem_mem hi
   have hv := hm.v _ ((hm.k _).2 ((p4 _).1 ho))
   unfold xlaw22_OriginTimes_L3
   exact Tot.iteT (by simpa using hi) (Tot.bindIdx i rfl hi (Tot.iteF (by rw [hv]; rfl) (Tot.step () (by rw [hw2]) trivial)))
  ·unfold xlaw22_OriginTimes_L3
   exact Tot.iteF (by simp) (Tot.last rfl)
  ·rintro _ rfl
   exact Tot.step () (by rw [hw]) trivial
 ·unfold xlaw22_OriginTimes_L0
  exact Tot.iteF rfl (Tot.last rfl)
 ·rintro _ rfl
  exact Tot.bindOf awake_eq (Tot.some rfl)
end Go.Proofs.YtgfoabcickjphaaGreatDoor

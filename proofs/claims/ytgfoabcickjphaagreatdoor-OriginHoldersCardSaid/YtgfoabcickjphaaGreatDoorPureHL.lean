/- The law of holders, in plain Lean. -/
import Derived.Test.YtgfoabcickjphaaGreatDoorPureP
namespace Go.Proofs.YtgfoabcickjphaaGreatDoor
open Go Go.Vc
theorem no_anchor {cs : List aCert} {now : Int} {k i : Nat} (h : Tr cs [] now k i) : False := by
 induction h with
 | base _ _ _ h4 => cases h4
 | up _ ih => exact ih
 | iss _ _ _ _ _ _ _ ih => exact ih
theorem hl_L3 {r2 : List aCert × List aSigned × Int × xmake_Deck} {t : List Bool} {an : List Int} {now : Int} (hc : CsOk r2.1) (hl : r2.1.length ≤ 1000) (ht : t.length = r2.1.length) (htr : ∀ i : Nat, t[i]? = some true ↔ Tr r2.1 an now 15 i) {o : aObject} (ho : pV o.fPrefix) :
  Tot (loop (xlaw22_OriginHolders_L3 r2 t o) (false, (0 : Int))) (fun b => (∃ (i : Nat) (c : aCert), r2.1[i]? = some c ∧ Tr r2.1 an now 15 i ∧ HasF c.fResources.fAddrs o.fPrefix) → b = true) := by
 refine Tot.rng r2.1.length (fun k (b : Bool) => (b, ((k : Nat) : Int))) (fun k b => (∃ (i : Nat) (c : aCert), i < k ∧ r2.1[i]? = some c ∧ Tr r2.1 an now 15 i ∧ HasF c.fResources.fAddrs o.fPrefix) → b = true) _ false rfl (fun ⟨i, c, h, _⟩ => by omega) (fun k b hk hb => ?_) (fun b hb => ?_)
 ·have hw : w64 ((k : Int) + 1) = ((k + 1 : Nat) : Int) := by rw [w64_id (by omega) (by omega)]; rfl
  have hkt : k < t.length := by omega
  have hcs : r2.1[k]? = some r2.1[k] := List.getElem?_eq_getElem hk
  have hv := (hc _ (List.getElem_mem hk)).1
  have hla := hv.la
  unfold xlaw22_OriginHolders_L3
  refine Tot.iteT (by simpa using hk) (Tot.bindIdx k rfl hk (Tot.jnR (fun m : Bool => (b = true ∨ (Tr r2.1 an now 15 k ∧ HasF r2.1[k].fResources.fAddrs o.fPrefix)) → m = true) (fun j hj => Tot.ite (fun _ => hj _ fun _ => rfl) (fun h => Tot.bindIdx k rfl hkt (Tot.ite (fun h2 => Tot.bindT (rhas_eq hv.av (by omega) ho) fun c hc2 => hj _ fun g => ?_) (fun h2 => hj _ fun g => ?_)))) (fun m hm => Tot.step m (by rw [hw]) ?_)))
  ·rcases g with g | g
   ·rw [g] at h; cases h
   ·exact hc2.2 g.2
  ·rcases g with g | g
   ·rw [g] at h; cases h
   ·have := (htr k).2 g.1
    rw [List.getElem?_eq_getElem hkt] at this
    rw [Option.some.inj this] at h2
    cases h2
  ·rintro ⟨i, c, g1, g2, g3⟩
   rcases Nat.lt_or_ge i k with q | q
   ·exact hm (.inl (hb ⟨i, c, q, g2, g3⟩))
   ·have : i = k := by omega
    subst this
    rw [hcs] at g2
    cases g2
    exact hm (.inr g3)
 ·unfold xlaw22_OriginHolders_L3
  exact Tot.iteF (by simp) (Tot.last fun ⟨i, c, g⟩ => hb ⟨i, c, tr_lt g.2.1, g⟩)
section
variable {r2 : List aCert × List aSigned × Int × xmake_Deck} {t : List Bool} {an : List Int} {now : Int} {r4 : List aObject × Int}
theorem hl_L2 (hc : CsOk r2.1) (hl : r2.1.length ≤ 1000) (ht : t.length = r2.1.length) (htr : ∀ i : Nat, t[i]? = some true ↔ Tr r2.1 an now 15 i) {q : aPrefix} (hq : aV q.fAddr) {z : Int × List aObject} (hz : z.2.length ≤ 1000)
  (h : ∀ o ∈ z.2, pV o.fPrefix ∧ CoversF o.fPrefix q = true ∧ ∃ (i : Nat) (c : aCert), r2.1[i]? = some c ∧ Tr r2.1 an now 15 i ∧ HasF c.fResources.fAddrs o.fPrefix) :
  Tot (loop (xlaw22_OriginHolders_L2 r2 t q z) (0 : Int)) (fun x => x = .inr ()) := by
 refine Tot.rng z.2.length (fun k (_ : Unit) => ((k : Nat) : Int)) (fun _ _ => True) _ () rfl trivial (fun k _ hk _ => ?_) (fun _ _ => ?_)
 ·have hw : w64 ((k : Int) + 1) = ((k + 1 : Nat) : Int) := by rw [w64_id (by omega) (by omega)]; rfl
  obtain ⟨h1, h2, h3⟩ := h _ (List.getElem_mem hk)
  unfold xlaw22_OriginHolders_L2
  refine Tot.iteT (by simpa using hk) (Tot.bindIdx k rfl hk (Tot.bindT (hl_L3 hc hl ht htr h1) fun b hb => ?_))
  rw [hb h3]
  exact Tot.jnR (fun m : Bool => m = false) (fun j hj => Tot.iteF rfl (Tot.bindOf (rcovers_eq _ hq) (hj _ (by rw [h2]; rfl)))) (fun m hm => Tot.iteF hm (Tot.step () (by rw [hw]) trivial))
 ·unfold xlaw22_OriginHolders_L2
  exact Tot.iteF (by simp) (Tot.last rfl)
theorem hl_L1 {a2 : Int} (hc : CsOk r2.1) (hl : r2.1.length ≤ 1000) (ht : t.length = r2.1.length) (htr : ∀ i : Nat, t[i]? = some true ↔ Tr r2.1 an now 15 i) (hz : r4.1.length ≤ 1000)
  (h : ∀ o ∈ r4.1, pV o.fPrefix ∧ ∃ (i : Nat) (c : aCert), r2.1[i]? = some c ∧ Tr r2.1 an now 15 i ∧ HasF c.fResources.fAddrs o.fPrefix) {x : aObject} (hx : pV x.fPrefix) {p : aPrefix × xmake_Deck} (hp : pV p.1) :
  Tot (loop (xlaw22_OriginHolders_L1 a2 r2 r4 t x p) (0 : Int)) (fun x => x = .inr ()) := by
 have hall : ∀ q ∈ [x.fPrefix, p.1], pV q := fun q hq => by
  simp only [List.mem_cons, List.not_mem_nil, or_false] at hq
  rcases hq with rfl | rfl
  ·exact hx
  ·exact hp
 refine Tot.rng 2 (fun k (_ : Unit) => ((k : Nat) : Int)) (fun _ _ => True) _ () rfl trivial (fun k _ hk _ => ?_) (fun _ _ => ?_)
 ·have hw : w64 ((k : Int) + 1) = ((k + 1 : Nat) : Int) := by rw [w64_id (by omega) (by omega)]; rfl
  have hq := hall _ (List.getElem_mem (show k < [x.fPrefix, p.1].length from hk))
  unfold xlaw22_OriginHolders_L1
  refine Tot.iteT (decide_eq_true (show (k : Int) < 2 by omega)) (Tot.bindIdx k rfl hk (Tot.bindOf (mod_eq a2 6 (by decide) (by decide)) (Tot.bindOf (state_eq hq.addr.1 _ (by omega)) (Tot.iteF ?_ (Tot.bindT (hl_L2 hc hl ht htr hq.addr (z := (_, _)) ?_ fun o ho => ?_) ?_)))))
  ·rw [bne_eq_false_iff_eq]
   generalize hq2 : [x.fPrefix, p.1][k] = q
   have hz := stL_zero (q := q) (n := a2 % 6) (out := cov q r4.1)
   simp only
   by_cases e : cov q r4.1 = []
   ·rw [hz.2 e, e]; rfl
   ·have e1 : (stL q (a2 % 6) (cov q r4.1) == (0 : Int)) = false := beq_eq_false_iff_ne.2 fun g => e (hz.1 g)
    have e2 : (((cov q r4.1).length : Int) == (0 : Int)) = false := beq_eq_false_iff_ne.2 fun g => e (List.length_eq_zero_iff.1 (by omega))
    rw [e1, e2]
  ·have := cov_len (q := [x.fPrefix, p.1][k]) (l := r4.1)
   simp only
   omega
  ·obtain ⟨g1, g2⟩ := List.mem_filter.1 ho
   exact ⟨(h o g1).1, g2, (h o g1).2⟩
  ·rintro _ rfl
   exact Tot.step () (by rw [hw]) trivial
 ·unfold xlaw22_OriginHolders_L1
  exact Tot.iteF rfl (Tot.last rfl)
end
theorem holders_law (a0 : List Int) (h0 : (∀ y ∈ a0, I64 y) ∧ a0.length ≤ maxLen) (a1 : Int) (_ : I64 a1) (a2 : Int) (_ : I64 a2) : xlaw22_OriginHolders a0 a1 a2 = some true := by
 refine Tot.eq ?_
 unfold maxLen at h0
 unfold xlaw22_OriginHolders
 refine Tot.bindOf (show xmake_New a0 = some ⟨a0, 0⟩ from rfl) (Tot.bindT (setting_tot _ (new_ok a0 (by omega))) fun r hr => ?_)
 obtain ⟨⟨c1, c2⟩, ⟨s1, s2⟩, _, hd⟩ := hr
 obtain ⟨an, ean, han⟩ := anchors_tot a1
 refine Tot.bindOf ean (Tot.bindT (payloads_tot (now := r.2.2.1) (cs_raw c1) (by omega) (an := an) (by omega) s1 (by omega)) fun p hp => Tot.bindOf ean (Tot.bindT (trusted_tot (now := r.2.2.1) (cs_raw c1) (by omega) (an := an) (by omega)) fun t ht => ?_))
 obtain ⟨p1, p2, p3, p4⟩ := hp
 have hob : ∀ o ∈ p.1, pV o.fPrefix ∧ ∃ (i : Nat) (c : aCert), r.1[i]? = some c ∧ Tr r.1 an r.2.2.1 15 i ∧ HasF c.fResources.fAddrs o.fPrefix := fun o ho => by
  obtain ⟨s, g1, g2, g3⟩ := (p4 o).1 ho
  obtain ⟨i, c, e1, _, e3, e4⟩ := g2.h
  exact ⟨(s1 s g1).1 o g3, i, c, e1, e3, e4 o g3⟩
 refine Tot.iteF (by rw [p1, ht.1]; simp) ?_
 refine Tot.bindRng p.1.length (fun k (d : xmake_Deck) => (((k : Nat) : Int), d)) (fun _ d => DeckOk d) (fun x => x = .inr ()) r.2.2.2 rfl hd (fun k d hk hb => ?_) (fun d hb => ?_) ?_
 ·have hw : w64 ((k : Int) + 1) = ((k + 1 : Nat) : Int) := by rw [w64_id (by omega) (by omega)]; rfl
  unfold xlaw22_OriginHolders_L0
  refine Tot.iteT (by simpa using hk) (Tot.bindIdx k rfl hk (Tot.bindT (prefix_tot _ hb) fun q hq => Tot.bindT (hl_L1 c1 (by omega) ht.1 ht.2 (by omega) hob (hob _ (List.getElem_mem hk)).1 hq.1) ?_))
  rintro _ rfl
  exact Tot.step q.2 (by rw [hw]) hq.2
 ·unfold xlaw22_OriginHolders_L0
  exact Tot.iteF (by simp) (Tot.last rfl)
 ·rintro _ rfl
  refine Tot.bindT (trusted_tot (now := r.2.2.1) (cs_raw c1) (by omega) (an := []) (by simp)) fun z hz => Tot.bindRng z.length (fun k (_ : Unit) => ((k : Nat) : Int)) (fun _ _ => True) (fun x => x = .inr ()) () rfl trivial (fun i _ hi _ => ?_) (fun _ _ => ?_) ?_
  ·have hzl := hz.1
   have hw : w64 ((i : Int) + 1) = ((i + 1 : Nat) : Int) := by rw [w64_id (by omega) (by omega)]; rfl
   have hf : z[i] = false := by
    cases e : z[i] with
    | false => rfl
    | true => exact (no_anchor ((hz.2 i).1 (by rw [List.getElem?_eq_getElem hi, e]))).elim
   unfold xlaw22_OriginHolders_L4
   exact Tot.iteT (by simpa using hi) (Tot.bindIdx i rfl hi (Tot.iteF hf (Tot.step () (by rw [hw]) trivial)))
  ·unfold xlaw22_OriginHolders_L4
   exact Tot.iteF (by simp) (Tot.last rfl)
  ·rintro _ rfl
   exact Tot.bindOf awake_eq (Tot.some rfl)
end Go.Proofs.YtgfoabcickjphaaGreatDoor

/- Chapter 41 in plain Lean: tariffs and prices, the ports of a member, the search in lines, adding a line, the series of a port. -/
import Derived.Test.YtimcphncaffenaaPure
namespace Go.Proofs.Ytimcphncaffenaa
open Go Go.Vc

def TOk (t : api_Tariff) : Prop := (0 ≤ t.fBase ∧ t.fBase ≤ 1099511627776) ∧ (0 ≤ t.fIncluded ∧ t.fIncluded ≤ 1048576) ∧ (0 ≤ t.fRate ∧ t.fRate ≤ 1048576)
instance (t : api_Tariff) : Decidable (TOk t) := by unfold TOk; infer_instance
def PriceN (t : api_Tariff) (u : Int) : Int := t.fBase + t.fRate * max 0 (u - t.fIncluded)
def PriceF (t : api_Tariff) (u : Int) : Int × Int :=
  if ¬ TOk t then (0, 38) else if u < 0 ∨ 1099511627776 < u then (0, 1) else if 1125899906842624 < PriceN t u then (0, 3) else (PriceN t u, 0)

theorem tariff_eq (t : api_Tariff) : invoice_tariff t = some (decide (TOk t)) := by
  unfold invoice_tariff invoice_tariff_1 jn TOk
  simp only [Option.bind_some]
  by_cases h1 : 0 ≤ t.fBase ∧ t.fBase ≤ 1099511627776
  · by_cases h2 : 0 ≤ t.fIncluded ∧ t.fIncluded ≤ 1048576
    · by_cases h3 : 0 ≤ t.fRate ∧ t.fRate ≤ 1048576 <;> simp [h1, h2, h3]
      omega
    · simp only [h1, h2, and_self, false_and, and_false, decide_true, decide_false, Bool.and_self, if_true]
      rw [if_neg (by simp only [Bool.and_eq_true, decide_eq_true_eq]; exact h2)]
  · rw [if_neg (by simp only [Bool.and_eq_true, decide_eq_true_eq]; exact h1)]
    simp only [h1, false_and, decide_false]
theorem tvalid_eq (t : api_Tariff) : exchangepointref41_Valid t = some (decide (TOk t)) := by
  unfold exchangepointref41_Valid TOk
  congr 1
  rw [Bool.eq_iff_iff]
  simp only [Bool.and_eq_true, decide_eq_true_eq, and_assoc]
theorem mul_le_pow {a b : Int} (ha : 0 ≤ a) (ha' : a ≤ 1048576) (hb : 0 ≤ b) (hb' : b ≤ 1099511627776) : 0 ≤ a * b ∧ a * b ≤ 1152921504606846976 := by
  refine ⟨Int.mul_nonneg ha hb, ?_⟩
  have := Int.mul_le_mul ha' hb' hb (by omega)
  omega
theorem price_w {t : api_Tariff} {u : Int} (ht : TOk t) (hu : ¬ (u < 0 ∨ 1099511627776 < u)) : w64 (t.fBase + w64 (t.fRate * maxI 0 (w64 (u - t.fIncluded)))) = PriceN t u ∧ 0 ≤ PriceN t u ∧ PriceN t u ≤ 1152922604118474752 := by
  obtain ⟨⟨a1, a2⟩, ⟨b1, b2⟩, ⟨c1, c2⟩⟩ := ht
  have e1 : w64 (u - t.fIncluded) = u - t.fIncluded := w64_id (by omega) (by omega)
  rw [e1, maxI_eq]
  have hm := mul_le_pow c1 c2 (b := max 0 (u - t.fIncluded)) (by omega) (by omega)
  have e2 : w64 (t.fRate * max 0 (u - t.fIncluded)) = t.fRate * max 0 (u - t.fIncluded) := w64_id (by omega) (by omega)
  rw [e2, w64_id (by omega) (by omega)]
  exact ⟨rfl, by unfold PriceN; omega, by unfold PriceN; omega⟩
theorem price_eq (t : api_Tariff) (u : Int) : invoice_Price t u = some (PriceF t u) := by
  unfold invoice_Price PriceF
  rw [tariff_eq, Option.bind_some]
  by_cases ht : TOk t
  · by_cases hu : u < 0 ∨ 1099511627776 < u
    · simp [ht, hu]
    · obtain ⟨e, _⟩ := price_w ht hu
      rw [e]
      have hub : (decide (u < 0) || decide (1099511627776 < u)) = false := by simp only [Bool.or_eq_false_iff, decide_eq_false_iff_not]; omega
      rw [hub, if_neg hu]
      by_cases hn : 1125899906842624 < PriceN t u <;> simp [ht, hn]
  · simp [ht]
theorem price_ref (t : api_Tariff) (u : Int) : exchangepointref41_Price t u = some (PriceF t u) := by
  unfold exchangepointref41_Price PriceF
  rw [tvalid_eq, Option.bind_some]
  by_cases ht : TOk t
  · by_cases hu : u < 0 ∨ 1099511627776 < u
    · simp [ht, hu]
    · obtain ⟨e, _⟩ := price_w ht hu
      rw [e]
      have hub : (decide (u < 0) || decide (1099511627776 < u)) = false := by simp only [Bool.or_eq_false_iff, decide_eq_false_iff_not]; omega
      rw [hub, if_neg hu]
      by_cases hn : 1125899906842624 < PriceN t u <;> simp [ht, hn]
  · simp [ht]

theorem compact_in {l : List Int} {s : Nat} (hs : s < l.length) (hl : l.length ≤ 1000000) :
    Tot (loop (slices_Compact_L1 l (s : Int)) ((s : Int), (1 : Int), l)) (fun p => ∃ k : Nat, p.1 = (k : Int) ∧ k < l.length ∧ p.2.length = l.length) := by
  refine Tot.loop (fun st : Int × Int × List Int => ∃ k k2 : Nat, st.1 = (k : Int) ∧ st.2.1 = (k2 : Int) ∧ 1 ≤ k2 ∧ k2 ≤ l.length - s ∧ k + 1 ≤ s + k2 ∧ st.2.2.length = l.length) (fun st => l.length - st.2.1.toNat) _ ?_ ⟨s, 1, rfl, rfl, Nat.le_refl _, by omega, by omega, rfl⟩
  rintro ⟨a, b, es⟩ ⟨k, k2, rfl, rfl, h1, h2, h3, h4⟩
  simp only at h4
  have hlen : ((es.drop s).take (l.length - s)).length = l.length - s := by rw [List.length_take, List.length_drop]; omega
  have hsn : ((s : Int)).toNat = s := Int.toNat_natCast s
  unfold slices_Compact_L1
  simp only [hsn, Int.toNat_natCast]
  refine Tot.ite (fun hc => ?_) (fun hc => ?_)
  · have hc := of_decide_eq_true hc
    have hk2 : k2 < l.length - s := by omega
    have hp : w64 ((k2 : Int) - 1) = ((k2 - 1 : Nat) : Int) := by rw [w64_id (by omega) (by omega)]; omega
    have hn : w64 ((k2 : Int) + 1) = ((k2 + 1 : Nat) : Int) := by rw [w64_id (by omega) (by omega)]; omega
    have hkn : w64 ((k : Int) + 1) = ((k + 1 : Nat) : Int) := by rw [w64_id (by omega) (by omega)]; omega
    rw [hp, hn, hkn]
    refine Tot.bindIdx k2 rfl (by omega) (Tot.bindIdx k2 rfl (by omega) (Tot.bindIdx (k2 - 1) rfl (by omega) (Tot.bindIdx (k2 - 1) rfl (by omega) ?_)))
    refine Tot.jnR (fun m : Int × List Int => ∃ q : Nat, m.1 = (q : Int) ∧ q + 1 ≤ s + (k2 + 1) ∧ m.2.length = l.length) (fun j hj => ?_) ?_
    · refine Tot.ite (fun _ => ?_) (fun _ => hj _ ⟨k, rfl, by omega, h4⟩)
      refine Tot.bindIdx k2 rfl (by omega) (Tot.bindIdx k2 rfl (by omega) (Tot.bindIdx k rfl (by omega) (Tot.bindIdx k rfl (by omega) (hj _ ⟨k + 1, rfl, by omega, ?_⟩))))
      simp only [List.length_set]; exact h4
    · rintro ⟨m1, m2⟩ ⟨q, rfl, hq, hm⟩
      exact Tot.next ⟨q, k2 + 1, rfl, rfl, by omega, by omega, hq, hm⟩ (by simp only [Int.toNat_natCast]; omega)
  · have hc := of_decide_eq_false hc
    exact Tot.out ⟨k, rfl, by omega, h4⟩

/-- no two neighbours are equal -/
def Apart (l : List Int) : Prop := ∀ i (h : i + 1 < l.length), l[i] ≠ l[i + 1]

theorem compact_eq {l : List Int} (hl : l.length ≤ 1000000) : Tot (slices_Compact l) (fun r => r.length = l.length ↔ Apart l) := by
  unfold slices_Compact
  refine Tot.ite (fun hc => ?_) (fun hc => ?_)
  · have hc := of_decide_eq_true hc
    exact Tot.some ⟨fun _ i h => by omega, fun _ => rfl⟩
  have hc := of_decide_eq_false hc
  refine Tot.bindLoop (fun s : Int => ∃ k : Nat, s = (k : Int) ∧ 1 ≤ k ∧ k ≤ l.length ∧ ∀ i (h : i + 1 < l.length), i + 1 < k → l[i] ≠ l[i + 1]) (fun s => l.length - s.toNat)
    (fun x => match x with | .inl r => r.length ≠ l.length ∧ ¬ Apart l | .inr _ => Apart l) ⟨1, rfl, Nat.le_refl _, by omega, fun i _ h => by omega⟩ ?_ ?_
  · rintro _ ⟨k, rfl, h1, h2, h3⟩
    unfold slices_Compact_L0
    refine Tot.ite (fun hk => ?_) (fun hk => ?_)
    · have hk := of_decide_eq_true hk
      have hkl : k < l.length := by omega
      have hp : w64 ((k : Int) - 1) = ((k - 1 : Nat) : Int) := by rw [w64_id (by omega) (by omega)]; omega
      rw [hp]
      refine Tot.bindIdx k rfl hkl (Tot.bindIdx k rfl hkl (Tot.bindIdx (k - 1) rfl (by omega) (Tot.bindIdx (k - 1) rfl (by omega) ?_)))
      refine Tot.ite (fun he => ?_) (fun he => ?_)
      · have he := eq_of_beq he
        refine Tot.chk (by simp only [Int.toNat_natCast, Bool.and_eq_true, decide_eq_true_eq]; omega) ?_
        refine Tot.bindT (compact_in hkl hl) ?_
        rintro ⟨p1, p2⟩ ⟨q, rfl, hq, hp2⟩
        simp only [Int.toNat_natCast] at hp2 ⊢
        refine Tot.chk (by simp only [Bool.and_eq_true, decide_eq_true_eq]; omega) ?_
        refine Tot.chk (by simp only [decide_eq_true_eq]; omega) ?_
        refine Tot.chk (by simp only [Bool.and_eq_true, decide_eq_true_eq]; omega) ?_
        refine Tot.chk (by simp only [decide_eq_true_eq, List.length_append, List.length_take, List.length_replicate, List.length_drop]; omega) ?_
        refine Tot.out ⟨?_, fun ha => ?_⟩
        · simp only [List.length_append, List.length_take, List.length_replicate, List.length_drop]; omega
        · have := ha (k - 1) (by omega)
          simp only [show k - 1 + 1 = k from by omega] at this
          exact this he.symm
      · rw [cast_succ_w hkl (by omega)]
        refine Tot.next ⟨k + 1, rfl, by omega, by omega, fun i h hi => ?_⟩ (by simp only [Int.toNat_natCast]; omega)
        by_cases hik : i + 1 = k
        · subst hik
          have he : l[i + 1] ≠ l[i] := by simpa using he
          exact fun e => he e.symm
        · exact h3 i h (by omega)
    · have hk := of_decide_eq_false hk
      exact Tot.out fun i h => h3 i h (by omega)
  · rintro (r | u) hx
    · exact Tot.some ⟨fun h => absurd h hx.1, fun h => absurd h hx.2⟩
    · exact Tot.some ⟨fun _ => hx, fun _ => rfl⟩

def IDs (m : api_Member) : List Int := m.fPorts.map (fun p => p.fID)
def idOk (x : Int) : Prop := 1 ≤ x ∧ x ≤ 999
def POk (m : api_Member) : Prop := (∀ x ∈ IDs m, idOk x) ∧ (IDs m).Nodup ∧ (IDs m).length ≤ 4

theorem apart_lt {l : List Int} (hs : l.Pairwise (· ≤ ·)) (ha : Apart l) : l.Pairwise (· < ·) := by
  rw [List.pairwise_iff_getElem] at hs ⊢
  intro i j hi hj hij
  have h1 := hs i (i + 1) hi (by omega) (by omega)
  have h2 := ha i (by omega)
  by_cases he : i + 1 = j
  · subst he; omega
  · have h3 := hs (i + 1) j (by omega) hj (by omega)
    omega
theorem srt_apart (l : List Int) : Apart (srt l) ↔ l.Nodup := by
  constructor
  · intro h
    have h1 := apart_lt (srt_sorted l) h
    have h2 : (srt l).Nodup := h1.imp (fun hab e => by omega)
    exact (srt_perm l).nodup_iff.1 h2
  · intro h i hi
    have h2 : (srt l).Nodup := (srt_perm l).nodup_iff.2 h
    unfold List.Nodup at h2
    rw [List.pairwise_iff_getElem] at h2
    exact h2 i (i + 1) (by omega) hi (by omega)

theorem ports_eq (m : api_Member) (hl : m.fPorts.length ≤ 1000000) : Tot (invoice_ports m) (fun r => (r.2 = true ↔ POk m) ∧ (r.2 = true → r.1 = srt (IDs m))) := by
  have hil : (IDs m).length = m.fPorts.length := by unfold IDs; rw [List.length_map]
  unfold invoice_ports
  refine Tot.bindLoop (fun s : Int × List Int => ∃ k : Nat, s.1 = (k : Int) ∧ k ≤ m.fPorts.length ∧ s.2 = (IDs m).take k ∧ ∀ x ∈ (IDs m).take k, idOk x) (fun s => m.fPorts.length - s.1.toNat)
    (fun x => match x with | .inl _ => ¬ POk m | .inr l => l = IDs m ∧ ∀ x ∈ IDs m, idOk x) ⟨0, rfl, by omega, by simp, by simp⟩ ?_ ?_
  · rintro ⟨_, _⟩ ⟨k, rfl, hk, rfl, hall⟩
    unfold invoice_ports_L0
    refine Tot.ite (fun hc => ?_) (fun hc => ?_)
    · have hc := of_decide_eq_true hc
      have hkl : k < m.fPorts.length := by simp only at hc; omega
      have hget : (IDs m)[k]'(by omega) = m.fPorts[k].fID := by unfold IDs; rw [List.getElem_map]
      refine Tot.bindIdx k rfl hkl ?_
      refine Tot.ite (fun hb => ?_) (fun hb => ?_)
      · refine Tot.out fun hp => ?_
        have := hp.1 _ (List.getElem_mem (show k < (IDs m).length by omega))
        rw [hget] at this
        unfold idOk at this
        simp only [Bool.or_eq_true, decide_eq_true_eq] at hb
        omega
      · have hb : idOk m.fPorts[k].fID := by
          simp only [Bool.or_eq_false_iff, decide_eq_false_iff_not] at hb
          unfold idOk; omega
        have htake : (IDs m).take (k + 1) = (IDs m).take k ++ [m.fPorts[k].fID] := by
          rw [List.take_succ_eq_append_getElem (show k < (IDs m).length by omega), hget]
        simp only
        refine Tot.chk (decide_eq_true (show _ ≤ 4294967296 by rw [List.length_append, List.length_take]; simp only [List.length_cons, List.length_nil]; omega)) ?_
        rw [cast_succ_w hkl (by omega)]
        refine Tot.next ⟨k + 1, rfl, hkl, htake.symm, fun x hx => ?_⟩ (by simp only [Int.toNat_natCast]; omega)
        rw [htake] at hx
        rcases List.mem_append.1 hx with hx | hx
        · exact hall x hx
        · rw [List.mem_singleton.1 hx]; exact hb
    · have hc := of_decide_eq_false hc
      have hkl : k = (IDs m).length := by simp only at hc; omega
      rw [hkl, List.take_length] at hall
      exact Tot.out ⟨by rw [hkl, List.take_length], hall⟩
  · rintro (u | l) hx
    · exact Tot.some ⟨⟨fun h => (by cases h), fun h => absurd h hx⟩, fun h => (by cases h)⟩
    · obtain ⟨rfl, hall⟩ := hx
      refine Tot.bindOf (sort_eq (IDs m) (by omega)) ?_
      have hsl : (srt (IDs m)).length = (IDs m).length := srt_len _
      refine Tot.chk (decide_eq_true hsl) ?_
      have hcut : ((srt (IDs m)).drop 0).take (IDs m).length = srt (IDs m) := by rw [List.drop_zero, ← hsl, List.take_length]
      rw [hcut]
      refine Tot.jnR (fun b : Bool => b = true ↔ POk m) (fun j hj => ?_) (fun b hb => Tot.some ⟨hb, fun _ => rfl⟩)
      refine Tot.ite (fun hc => ?_) (fun hc => ?_)
      · have hc := of_decide_eq_true hc
        have hcl : ext47_slices_Clone_R (srt (IDs m)) = some (srt (IDs m)) := by
          unfold ext47_slices_Clone_R
          rw [show decide ((srt (IDs m)).length ≤ LIM) = true from decide_eq_true (show (srt (IDs m)).length ≤ 4294967296 by omega)]; rfl
        refine Tot.bindOf hcl (Tot.bindT (compact_eq (by omega)) fun r hr => hj _ ?_)
        rw [srt_apart] at hr
        simp only [beq_iff_eq]
        constructor
        · intro h
          exact ⟨hall, hr.1 (by omega), by omega⟩
        · intro h
          have := hr.2 h.2.1
          omega
      · have hc := of_decide_eq_false hc
        refine hj _ ⟨fun h => (by cases h), fun h => ?_⟩
        have := h.2.2
        omega

/-- where a number goes in a row: all from there on are greater, the one before is not -/
def Place (l : List Int) (x : Int) (k : Nat) : Prop := k ≤ l.length ∧ (∀ i (h : i < l.length), k ≤ i → x < l[i]) ∧ ∀ (h : 0 < k) (h' : k - 1 < l.length), l[k - 1] ≤ x

theorem place_loop (l : List Int) (hl : l.length ≤ 1000000) (k0 : Int) (x : api_Port) : Tot (loop (exchangepointref41_ports_L1 (k0, l) x) (l.length : Int)) (fun r => ∃ k : Nat, r = (k : Int) ∧ Place l x.fID k) := by
  refine Tot.loop (fun s : Int => ∃ k : Nat, s = (k : Int) ∧ k ≤ l.length ∧ ∀ i (h : i < l.length), k ≤ i → x.fID < l[i]) (fun s => s.toNat) _ ?_ ⟨l.length, rfl, Nat.le_refl _, fun i h h' => by omega⟩
  rintro _ ⟨k, rfl, hk, hall⟩
  unfold exchangepointref41_ports_L1
  refine Tot.jnR (fun b : Bool => (b = true → 0 < k ∧ ∀ (h : k - 1 < l.length), x.fID < l[k - 1]) ∧ (b = false → ∀ (h : 0 < k) (h' : k - 1 < l.length), l[k - 1] ≤ x.fID)) (fun j hj => ?_) ?_
  · refine Tot.ite (fun hc => ?_) (fun hc => ?_)
    · have hc := of_decide_eq_true hc
      have hp : w64 ((k : Int) - 1) = ((k - 1 : Nat) : Int) := by rw [w64_id (by omega) (by omega)]; omega
      rw [hp]
      refine Tot.bindIdx (k - 1) rfl (show k - 1 < l.length by omega) (Tot.bindIdx (k - 1) rfl (show k - 1 < l.length by omega) (hj _ ⟨fun h => ⟨by omega, fun _ => of_decide_eq_true h⟩, fun h _ _ => ?_⟩))
      have := of_decide_eq_false h
      simp only at this
      omega
    · have hc := of_decide_eq_false hc
      exact hj _ ⟨fun h => (by cases h), fun _ h => by omega⟩
  · rintro b ⟨h1, h2⟩
    refine Tot.ite (fun hb => ?_) (fun hb => ?_)
    · obtain ⟨h0, hx⟩ := h1 hb
      have hp : w64 ((k : Int) - 1) = ((k - 1 : Nat) : Int) := by rw [w64_id (by omega) (by omega)]; omega
      rw [hp]
      refine Tot.next ⟨k - 1, rfl, by omega, fun i h hi => ?_⟩ (by simp only [Int.toNat_natCast]; omega)
      by_cases he : i = k - 1
      · subst he; exact hx h
      · exact hall i h (by omega)
    · exact Tot.out ⟨k, rfl, hk, hall, h2 hb⟩

theorem place_mem {l : List Int} {x : Int} {k : Nat} (hs : l.Pairwise (· < ·)) (h : Place l x k) : x ∈ l ↔ ∃ (_ : 0 < k) (h' : k - 1 < l.length), l[k - 1] = x := by
  obtain ⟨h1, h2, h3⟩ := h
  rw [List.pairwise_iff_getElem] at hs
  constructor
  · intro hx
    obtain ⟨i, hi, e⟩ := List.getElem_of_mem hx
    have hik : i < k := by
      rcases Nat.lt_or_ge i k with h | h
      · exact h
      · have := h2 i hi h; omega
    have h4 := h3 (by omega) (by omega)
    refine ⟨by omega, by omega, ?_⟩
    by_cases he : i = k - 1
    · subst he; exact e
    · have := hs i (k - 1) hi (by omega) (by omega); omega
  · rintro ⟨h0, h', e⟩
    rw [← e]; exact List.getElem_mem h'

theorem place_sorted {l : List Int} {x : Int} {k : Nat} (hs : l.Pairwise (· < ·)) (h : Place l x k) (hx : x ∉ l) : (l.take k ++ [x] ++ l.drop k).Pairwise (· < ·) := by
  have hlt : ∀ y ∈ l.take k, y < x := fun y hy => by
    obtain ⟨i, hi, e⟩ := List.getElem_of_mem hy
    rw [List.length_take] at hi
    rw [List.getElem_take] at e
    have hk := h.1
    have h4 := h.2.2 (by omega) (by omega)
    have hne : l[k - 1]'(by omega) ≠ x := fun e => hx (e ▸ List.getElem_mem _)
    rw [List.pairwise_iff_getElem] at hs
    by_cases he : i = k - 1
    · subst he; omega
    · have := hs i (k - 1) (by omega) (by omega) (by omega); omega
  have hgt : ∀ y ∈ l.drop k, x < y := fun y hy => by
    obtain ⟨i, hi, e⟩ := List.getElem_of_mem hy
    rw [List.getElem_drop] at e
    rw [List.length_drop] at hi
    have := h.2.1 (k + i) (by omega) (by omega)
    omega
  rw [List.pairwise_append, List.pairwise_append]
  refine ⟨⟨hs.sublist (List.take_sublist k l), by simp, fun a ha b hb => by rw [List.mem_singleton.1 hb]; exact hlt a ha⟩, hs.sublist (List.drop_sublist k l), fun a ha b hb => ?_⟩
  rcases List.mem_append.1 ha with ha | ha
  · have h5 := hlt a ha; have h6 := hgt b hb; omega
  · rw [List.mem_singleton.1 ha]; exact hgt b hb
theorem place_perm {l : List Int} {x : Int} {k : Nat} : (l.take k ++ [x] ++ l.drop k).Perm (l ++ [x]) := by
  have h1 : (l.take k ++ [x] ++ l.drop k).Perm (l.take k ++ (l.drop k ++ [x])) := by
    rw [List.append_assoc]; exact List.Perm.append_left _ List.perm_append_comm
  rw [← List.append_assoc, List.take_append_drop] at h1
  exact h1

theorem ports_ref (m : api_Member) (hl : m.fPorts.length ≤ 1000000) : Tot (exchangepointref41_ports m) (fun r => (r.2 = true ↔ POk m) ∧ (r.2 = true → r.1 = srt (IDs m))) := by
  have hil : (IDs m).length = m.fPorts.length := by unfold IDs; rw [List.length_map]
  unfold exchangepointref41_ports
  refine Tot.bindLoop (fun s : Int × List Int => ∃ k : Nat, s.1 = (k : Int) ∧ k ≤ m.fPorts.length ∧ s.2.Pairwise (· < ·) ∧ s.2.Perm ((IDs m).take k) ∧ ∀ x ∈ (IDs m).take k, idOk x) (fun s => m.fPorts.length - s.1.toNat)
    (fun x => match x with | .inl _ => ¬ POk m | .inr l => l.Pairwise (· < ·) ∧ l.Perm (IDs m) ∧ ∀ x ∈ IDs m, idOk x) ⟨0, rfl, by omega, by simp, by simp, by simp⟩ ?_ ?_
  · rintro ⟨_, l⟩ ⟨k, rfl, hk, hs, hp, hall⟩
    unfold exchangepointref41_ports_L0
    refine Tot.ite (fun hc => ?_) (fun hc => ?_)
    · have hc := of_decide_eq_true hc
      have hkl : k < m.fPorts.length := by simp only at hc; omega
      have hget : (IDs m)[k]'(by omega) = m.fPorts[k].fID := by unfold IDs; rw [List.getElem_map]
      have htake : (IDs m).take (k + 1) = (IDs m).take k ++ [m.fPorts[k].fID] := by
        rw [List.take_succ_eq_append_getElem (show k < (IDs m).length by omega), hget]
      simp only at hs hp
      have hll : l.length = k := by rw [hp.length_eq, List.length_take]; omega
      refine Tot.bindIdx k rfl hkl ?_
      simp only
      refine Tot.bindT (place_loop l (by omega) _ _) ?_
      rintro _ ⟨q, rfl, hq⟩
      have hq1 := hq.1
      refine Tot.jnR (fun b : Bool => (b = true → ¬ POk m) ∧ (b = false → idOk m.fPorts[k].fID ∧ m.fPorts[k].fID ∉ l)) (fun j hj => ?_) ?_
      · refine Tot.ite (fun hb => ?_) (fun hb => ?_)
        · refine hj _ ⟨fun _ hpok => ?_, fun h => (by cases h)⟩
          have := hpok.1 _ (List.getElem_mem (show k < (IDs m).length by omega))
          rw [hget] at this
          unfold idOk at this
          simp only [Bool.or_eq_true, decide_eq_true_eq] at hb
          omega
        · have hb : idOk m.fPorts[k].fID := by
            simp only [Bool.or_eq_false_iff, decide_eq_false_iff_not] at hb
            unfold idOk; omega
          refine Tot.ite (fun h0 => ?_) (fun h0 => ?_)
          · have h0 := of_decide_eq_true h0
            have hw : w64 ((q : Int) - 1) = ((q - 1 : Nat) : Int) := by rw [w64_id (by omega) (by omega)]; omega
            rw [hw]
            refine Tot.bindIdx (q - 1) rfl (show q - 1 < l.length by omega) (Tot.bindIdx (q - 1) rfl (show q - 1 < l.length by omega) (hj _ ⟨fun he => ?_, fun he => ⟨hb, fun hx => ?_⟩⟩))
            · have he := eq_of_beq he
              intro hpok
              have hx : m.fPorts[k].fID ∈ (IDs m).take k := hp.mem_iff.1 ((place_mem hs hq).2 ⟨by omega, by omega, he⟩)
              have hnd : ((IDs m).take (k + 1)).Nodup := hpok.2.1.sublist (List.take_sublist _ _)
              rw [htake, List.nodup_append] at hnd
              exact hnd.2.2 _ hx _ (List.mem_singleton.2 rfl) rfl
            · obtain ⟨_, _, e⟩ := (place_mem hs hq).1 hx
              rw [e] at he
              simp at he
          · have h0 := of_decide_eq_false h0
            refine hj _ ⟨fun h => (by cases h), fun _ => ⟨hb, fun hx => ?_⟩⟩
            obtain ⟨h1, _⟩ := (place_mem hs hq).1 hx
            omega
      · rintro b ⟨hb1, hb2⟩
        refine Tot.ite (fun hb => Tot.out (hb1 hb)) (fun hb => ?_)
        obtain ⟨hok, hnl⟩ := hb2 hb
        simp only [Int.toNat_natCast]
        have hcut : (l.drop q).take (l.length - q) = l.drop q := List.take_of_length_le (by rw [List.length_drop]; exact Nat.le_refl _)
        refine Tot.chk (by simp only [Bool.and_eq_true, decide_eq_true_eq]; omega) ?_
        refine Tot.chk (by simp only [decide_eq_true_eq]; omega) ?_
        simp only [hcut]
        refine Tot.chk (decide_eq_true (show _ ≤ 4294967296 by rw [List.length_drop]; omega)) ?_
        refine Tot.chk (by simp only [Bool.and_eq_true, decide_eq_true_eq]; omega) ?_
        refine Tot.chk (decide_eq_true (show _ ≤ 4294967296 by simp only [List.length_append, List.length_take, List.length_cons, List.length_nil]; omega)) ?_
        refine Tot.chk (decide_eq_true (show _ ≤ 4294967296 by simp only [List.length_append, List.length_take, List.length_drop, List.length_cons, List.length_nil]; omega)) ?_
        rw [cast_succ_w hkl (by omega)]
        refine Tot.next ⟨k + 1, rfl, hkl, place_sorted hs hq hnl, ?_, fun x hx => ?_⟩ (by simp only [Int.toNat_natCast]; omega)
        · rw [htake]; exact place_perm.trans (hp.append_right _)
        · rw [htake] at hx
          rcases List.mem_append.1 hx with hx | hx
          · exact hall x hx
          · rw [List.mem_singleton.1 hx]; exact hok
    · have hc := of_decide_eq_false hc
      have hkl : k = (IDs m).length := by simp only at hc; omega
      rw [hkl, List.take_length] at hall hp
      exact Tot.out ⟨hs, hp, hall⟩
  · rintro (u | l) hx
    · exact Tot.some ⟨⟨fun h => (by cases h), fun h => absurd h hx⟩, fun h => (by cases h)⟩
    · obtain ⟨hs, hp, hall⟩ := hx
      have hlen := hp.length_eq
      have hsrt : srt (IDs m) = l := srt_uniq hp (hs.imp (fun h => by omega))
      refine Tot.some ⟨?_, fun _ => hsrt.symm⟩
      simp only [decide_eq_true_eq]
      constructor
      · intro h
        exact ⟨hall, hp.nodup_iff.1 (hs.imp (fun hab e => by omega)), by omega⟩
      · intro h
        have := h.2.2
        omega

theorem u64_id {n : Int} (h : 0 ≤ n) (h' : n < 18446744073709551616) : IntKind.u64.wrap n = n := by
  simp [IntKind.wrap, IntKind.signed, IntKind.bits]
  omega
theorem mid_eq {i j : Nat} (h : i + j ≤ 4000000) : w64 (shrI .u64 (IntKind.u64.wrap (w64 ((i : Int) + (j : Int)))) 1) = (((i + j) / 2 : Nat) : Int) := by
  have e1 : w64 ((i : Int) + (j : Int)) = (i : Int) + (j : Int) := w64_id (by omega) (by omega)
  have e2 : IntKind.u64.wrap ((i : Int) + (j : Int)) = (i : Int) + (j : Int) := u64_id (by omega) (by omega)
  have e3 : shrI .u64 ((i : Int) + (j : Int)) 1 = ((i : Int) + (j : Int)).fdiv 2 := rfl
  rw [e1, e2, e3, Int.fdiv_eq_ediv_of_nonneg _ (by omega), w64_id (by omega) (by omega)]
  omega

def portsUp (l : List api_Line) : Prop := (l.map (fun x => x.fPort)).Pairwise (· < ·)
def portsIn (l : List api_Line) : Prop := ∀ x ∈ l, 0 ≤ x.fPort ∧ x.fPort ≤ 1000000
/-- the place of a port in lines -/
def At (l : List api_Line) (p : Int) (k : Nat) : Prop := k ≤ l.length ∧ (∀ i (h : i < l.length), i < k → l[i].fPort < p) ∧ ∀ i (h : i < l.length), k ≤ i → p ≤ l[i].fPort

theorem sorted_get {l : List api_Line} (h : portsUp l) {i j : Nat} (hi : i < l.length) (hj : j < l.length) (hij : i < j) : l[i].fPort < l[j].fPort := by
  unfold portsUp at h
  rw [List.pairwise_iff_getElem] at h
  have := h i j (by rw [List.length_map]; exact hi) (by rw [List.length_map]; exact hj) hij
  simpa using this

theorem search_eq {l : List api_Line} {p : Int} (hl : l.length ≤ 1000000) (hs : portsUp l) (hi : portsIn l) (hp : 0 ≤ p ∧ p ≤ 1000000) :
    Tot (slices_BinarySearchFunc_2 l p) (fun r => ∃ k : Nat, r.1 = (k : Int) ∧ Go.Proofs.Ytimcphncaffenaa.At l p k ∧ (r.2 = true ↔ ∃ h : k < l.length, l[k].fPort = p)) := by
  have hsub : ∀ {k : Nat} (h : k < l.length), w64 (l[k].fPort - p) = l[k].fPort - p := fun {k} h => by
    have := hi _ (List.getElem_mem h)
    exact w64_id (by omega) (by omega)
  unfold slices_BinarySearchFunc_2
  refine Tot.bindLoop (fun s : Int × Int => ∃ i j : Nat, s.1 = (i : Int) ∧ s.2 = (j : Int) ∧ i ≤ j ∧ j ≤ l.length ∧ (∀ t (h : t < l.length), t < i → l[t].fPort < p) ∧ ∀ t (h : t < l.length), j ≤ t → p ≤ l[t].fPort) (fun s => (s.2 - s.1).toNat)
    (fun x => ∃ k : Nat, x = (k : Int) ∧ Go.Proofs.Ytimcphncaffenaa.At l p k) ⟨0, l.length, rfl, rfl, Nat.zero_le _, Nat.le_refl _, fun t _ h => by omega, fun t h h' => by omega⟩ ?_ ?_
  · rintro ⟨_, _⟩ ⟨i, j, rfl, rfl, hij, hj, h1, h2⟩
    unfold slices_BinarySearchFunc_2_L0 invoice_sums_add_1
    simp only
    refine Tot.ite (fun hc => ?_) (fun hc => ?_)
    · have hc := of_decide_eq_true hc
      rw [mid_eq (by omega)]
      have hm : (i + j) / 2 < l.length := by omega
      refine Tot.bindIdx ((i + j) / 2) rfl hm (Tot.bindIdx ((i + j) / 2) rfl hm ?_)
      rw [hsub hm, Option.bind_some]
      refine Tot.ite (fun hb => ?_) (fun hb => ?_)
      · have hb := of_decide_eq_true hb
        rw [cast_succ_w hm (by omega)]
        refine Tot.next ⟨(i + j) / 2 + 1, j, rfl, rfl, by omega, hj, fun t h ht => ?_, h2⟩ (by simp only; omega)
        by_cases he : t = (i + j) / 2
        · subst he; omega
        · have := sorted_get hs h hm (by omega); omega
      · have hb := of_decide_eq_false hb
        refine Tot.next ⟨i, (i + j) / 2, rfl, rfl, by omega, by omega, h1, fun t h ht => ?_⟩ (by simp only; omega)
        by_cases he : t = (i + j) / 2
        · subst he; omega
        · have := sorted_get hs hm h (by omega); omega
    · have hc := of_decide_eq_false hc
      have he : i = j := by omega
      subst he
      exact Tot.out ⟨i, rfl, hj, h1, h2⟩
  · rintro _ ⟨k, rfl, hk⟩
    refine Tot.jnR (fun b : Bool => b = true ↔ ∃ h : k < l.length, l[k].fPort = p) (fun j hj => ?_) (fun b hb => Tot.some ⟨k, rfl, hk, hb⟩)
    refine Tot.ite (fun hc => ?_) (fun hc => ?_)
    · have hc := of_decide_eq_true hc
      have hkl : k < l.length := by omega
      refine Tot.bindIdx k rfl hkl (Tot.bindIdx k rfl hkl ?_)
      unfold invoice_sums_add_1
      rw [hsub hkl, Option.bind_some]
      refine hj _ ?_
      rw [beq_iff_eq]
      exact ⟨fun h => ⟨hkl, by omega⟩, fun ⟨_, h⟩ => by omega⟩
    · have hc := of_decide_eq_false hc
      exact hj _ ⟨fun h => (by cases h), fun ⟨h, _⟩ => by omega⟩

/-- the lines with room for a port -/
def roomF (l : List api_Line) (p : Int) (k : Nat) : List api_Line := if (l[k]?.map (fun x => x.fPort)) = some p then l else l.take k ++ [⟨p, 0, 0⟩] ++ l.drop k
def upLine (y x : api_Line) (sg : Int) : api_Line := ⟨y.fPort, w64 (y.fUsed + w64 (sg * x.fUsed)), w64 (y.fAmount + w64 (sg * x.fAmount))⟩

theorem add_eq {l : List api_Line} {x : api_Line} (sg : Int) (hl : l.length ≤ 100000) (hs : portsUp l) (hi : portsIn l) (hp : 0 ≤ x.fPort ∧ x.fPort ≤ 1000000) :
    Tot (invoice_sums_add_2 l x sg) (fun r => ∃ k : Nat, Go.Proofs.Ytimcphncaffenaa.At l x.fPort k ∧ ∃ h : k < (roomF l x.fPort k).length, r.flines = (roomF l x.fPort k).set k (upLine (roomF l x.fPort k)[k] x sg)) := by
  unfold invoice_sums_add_2
  refine Tot.bindT (search_eq (by omega) hs hi hp) ?_
  rintro ⟨_, b⟩ ⟨k, rfl, hk, hb⟩
  have hkl := hk.1
  simp only at hb
  refine Tot.jnR (fun m : List api_Line => m = roomF l x.fPort k ∧ k < m.length) (fun j hj => ?_) ?_
  · refine Tot.ite (fun hc => ?_) (fun hc => ?_)
    · have hnb : ¬ ∃ h : k < l.length, l[k].fPort = x.fPort := fun h => by rw [hb.2 h] at hc; cases hc
      have hroom : roomF l x.fPort k = l.take k ++ [⟨x.fPort, 0, 0⟩] ++ l.drop k := by
        unfold roomF
        rw [if_neg]
        intro h
        by_cases hkk : k < l.length
        · rw [List.getElem?_eq_getElem hkk] at h
          exact hnb ⟨hkk, by simpa using h⟩
        · rw [List.getElem?_eq_none (by omega)] at h
          cases h
      refine Tot.bindOf (x := l.take k ++ [⟨x.fPort, 0, 0⟩] ++ l.drop k) ?_ (hj _ ⟨hroom.symm, ?_⟩)
      · unfold ext53_slices_Insert_R
        simp only [Int.toNat_natCast]
        rw [show (decide (0 ≤ (k : Int)) && decide (k ≤ l.length) && decide (([⟨x.fPort, 0, 0⟩] : List api_Line).length = 1) && decide (l.length + 1 ≤ LIM)) = true from by
          simp only [Bool.and_eq_true, decide_eq_true_eq]
          exact ⟨⟨⟨by omega, hkl⟩, rfl⟩, show l.length + 1 ≤ 4294967296 by omega⟩]
        rfl
      · simp only [List.length_append, List.length_take, List.length_drop, List.length_cons, List.length_nil]; omega
    · have hbt : b = true := by simpa using hc
      obtain ⟨hkk, he⟩ := hb.1 hbt
      refine hj _ ⟨?_, hkk⟩
      unfold roomF
      rw [if_pos (by rw [List.getElem?_eq_getElem hkk, Option.map_some, he])]
  · rintro m ⟨rfl, hkm⟩
    simp only [Int.toNat_natCast]
    have h2 : ∀ y : api_Line, k < ((roomF l x.fPort k).set k y).length := fun y => by rw [List.length_set]; exact hkm
    refine Tot.bindIdx k rfl hkm (Tot.bindIdx k rfl hkm (Tot.bindIdx k rfl hkm (Tot.bindIdx k rfl hkm ?_)))
    refine Tot.bindIdx k rfl (h2 _) (Tot.bindIdx k rfl (h2 _) (Tot.bindIdx k rfl (h2 _) (Tot.bindIdx k rfl (h2 _) (Tot.some ⟨k, hk, hkm, ?_⟩))))
    simp only [List.getElem_set_self, List.set_set, upLine]

theorem w64_range (n : Int) : -9223372036854775808 ≤ w64 n ∧ w64 n ≤ 9223372036854775807 := by
  unfold w64
  rw [IntKind.wrap_i64]
  omega
theorem w64_zero_add (n : Int) : w64 (0 + w64 n) = w64 n := by
  have := w64_range n
  rw [Int.zero_add]
  exact w64_id this.1 this.2

theorem At.uniq {l : List api_Line} {p : Int} {k q : Nat} (h : Go.Proofs.Ytimcphncaffenaa.At l p k) (h' : Go.Proofs.Ytimcphncaffenaa.At l p q) : k = q := by
  obtain ⟨a1, a2, a3⟩ := h
  obtain ⟨b1, b2, b3⟩ := h'
  rcases Nat.lt_trichotomy k q with hlt | he | hlt
  · have h1 := a3 k (by omega) (Nat.le_refl _)
    have h2 := b2 k (by omega) hlt
    omega
  · exact he
  · have h1 := b3 q (by omega) (Nat.le_refl _)
    have h2 := a2 q (by omega) hlt
    omega
theorem add_one {l : List api_Line} {x : api_Line} (sg : Int) (hl : l.length ≤ 100000) (hs : portsUp l) (hi : portsIn l) (hp : 0 ≤ x.fPort ∧ x.fPort ≤ 1000000) :
    ∃ k : Nat, Go.Proofs.Ytimcphncaffenaa.At l x.fPort k ∧ ∃ h : k < (roomF l x.fPort k).length, invoice_sums_add_2 l x sg = some ⟨(roomF l x.fPort k).set k (upLine (roomF l x.fPort k)[k] x sg)⟩ := by
  obtain ⟨⟨r⟩, e, k, hk, hr, h⟩ := add_eq sg hl hs hi hp
  simp only at h
  subst h
  exact ⟨k, hk, hr, e⟩

/-- the first series of a port, or the end -/
def First (l : List api_Series) (p : Int) (k : Nat) : Prop := k ≤ l.length ∧ (∀ i (h : i < l.length), i < k → l[i].fPort ≠ p) ∧ ∀ (h : k < l.length), l[k].fPort = p
theorem index_eq {l : List api_Series} {p : Int} (hl : l.length ≤ 1000000) : Tot (slices_IndexFunc l p) (fun r => ∃ k : Nat, First l p k ∧ r = if k < l.length then (k : Int) else -1) := by
  unfold slices_IndexFunc
  refine Tot.bindLoop (fun s : Int => ∃ k : Nat, s = (k : Int) ∧ k ≤ l.length ∧ ∀ i (h : i < l.length), i < k → l[i].fPort ≠ p) (fun s => l.length - s.toNat)
    (fun x => match x with | .inl r => ∃ k : Nat, First l p k ∧ k < l.length ∧ r = (k : Int) | .inr _ => First l p l.length) ⟨0, rfl, Nat.zero_le _, fun i _ h => by omega⟩ ?_ ?_
  · rintro _ ⟨k, rfl, hk, h1⟩
    unfold slices_IndexFunc_L0 invoice_Make_1
    refine Tot.ite (fun hc => ?_) (fun hc => ?_)
    · have hc := of_decide_eq_true hc
      have hkl : k < l.length := by omega
      refine Tot.bindIdx k rfl hkl ?_
      rw [Option.bind_some]
      refine Tot.ite (fun hb => Tot.out ⟨k, ⟨hk, h1, fun _ => eq_of_beq hb⟩, hkl, rfl⟩) (fun hb => ?_)
      rw [cast_succ_w hkl (by omega)]
      refine Tot.next ⟨k + 1, rfl, hkl, fun i h hi => ?_⟩ (by simp only [Int.toNat_natCast]; omega)
      by_cases he : i = k
      · subst he; simpa using hb
      · exact h1 i h (by omega)
    · have hc := of_decide_eq_false hc
      exact Tot.out ⟨Nat.le_refl _, fun i h _ => h1 i h (by omega), fun h => by omega⟩
  · rintro (r | u) hx
    · obtain ⟨k, hk, hkl, rfl⟩ := hx
      exact Tot.some ⟨k, hk, by rw [if_pos hkl]⟩
    · exact Tot.some ⟨l.length, hx, by rw [if_neg (by omega)]⟩
theorem index_ref {l : List api_Series} {p : Int} (hl : l.length ≤ 1000000) : Tot (loop (exchangepointref41_Make_L1 l p) 0) (fun r => ∃ k : Nat, First l p k ∧ r = (k : Int)) := by
  refine Tot.loop (fun s : Int => ∃ k : Nat, s = (k : Int) ∧ k ≤ l.length ∧ ∀ i (h : i < l.length), i < k → l[i].fPort ≠ p) (fun s => l.length - s.toNat) _ ?_ ⟨0, rfl, Nat.zero_le _, fun i _ h => by omega⟩
  rintro _ ⟨k, rfl, hk, h1⟩
  unfold exchangepointref41_Make_L1
  refine Tot.jnR (fun b : Bool => b = true ↔ ∃ h : k < l.length, l[k].fPort ≠ p) (fun j hj => ?_) ?_
  · refine Tot.ite (fun hc => ?_) (fun hc => ?_)
    · have hc := of_decide_eq_true hc
      have hkl : k < l.length := by omega
      refine Tot.bindIdx k rfl hkl (hj _ ?_)
      rw [bne_iff_ne]
      exact ⟨fun h => ⟨hkl, h⟩, fun ⟨_, h⟩ => h⟩
    · have hc := of_decide_eq_false hc
      exact hj _ ⟨fun h => (by cases h), fun ⟨h, _⟩ => by omega⟩
  · intro b hb
    refine Tot.ite (fun hbt => ?_) (fun hbf => ?_)
    · obtain ⟨hkl, hx⟩ := hb.1 hbt
      rw [cast_succ_w hkl (by omega)]
      refine Tot.next ⟨k + 1, rfl, hkl, fun i h hi => ?_⟩ (by simp only [Int.toNat_natCast]; omega)
      by_cases he : i = k
      · subst he; exact hx
      · exact h1 i h (by omega)
    · refine Tot.out ⟨k, ⟨hk, h1, fun h => ?_⟩, rfl⟩
      by_cases he : l[k].fPort = p
      · exact he
      · have := hb.2 ⟨h, he⟩
        rw [this] at hbf; cases hbf

end Go.Proofs.Ytimcphncaffenaa

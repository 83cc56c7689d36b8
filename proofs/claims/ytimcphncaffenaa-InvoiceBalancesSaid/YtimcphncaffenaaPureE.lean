/- Chapter 41 in plain Lean: consistent invoices, their sums. -/
import Derived.Test.YtimcphncaffenaaPureD
namespace Go.Proofs.Ytimcphncaffenaa
open Go Go.Vc

def mny (n : Int) : Prop := -1125899906842624 ≤ n ∧ n ≤ 1125899906842624
def rowOk (x : api_Line) : Prop := idOk x.fPort ∧ mny x.fUsed ∧ mny x.fAmount
structure ConsP (v : api_Invoice) : Prop where
  asn : asnOk v.fMember
  mon : monOk v.fMonth
  ver : 1 ≤ v.fVersion ∧ v.fVersion ≤ 1000
  few : v.fLines.length ≤ 8
  rows : ∀ x ∈ v.fLines, rowOk x
  up : portsUp v.fLines
  tot : totF v.fLines = v.fTotal

theorem up_take {l : List api_Line} {k : Nat} (h : portsUp l) : portsUp (l.take k) := by
  unfold portsUp at h ⊢
  rw [List.map_take]
  exact h.sublist (List.take_sublist _ _)
theorem up_snoc {l : List api_Line} {k : Nat} (hk : k < l.length) : portsUp (l.take (k + 1)) ↔ portsUp (l.take k) ∧ ∀ h : 0 < k, (l[k - 1]'(by omega)).fPort < l[k].fPort := by
  constructor
  · intro h
    refine ⟨?_, fun h0 => ?_⟩
    · have := up_take (k := k) h
      rwa [List.take_take, Nat.min_eq_left (by omega)] at this
    · have h1 : k - 1 < (l.take (k + 1)).length := by rw [List.length_take]; omega
      have h2 : k < (l.take (k + 1)).length := by rw [List.length_take]; omega
      have := sorted_get h h1 h2 (by omega)
      simpa using this
  · rintro ⟨h1, h2⟩
    rw [take_snoc hk]
    unfold portsUp at h1 ⊢
    rw [List.map_append, List.pairwise_append]
    refine ⟨h1, by simp, fun p hp q hq => ?_⟩
    simp only [List.map_cons, List.map_nil, List.mem_singleton] at hq
    subst hq
    obtain ⟨y, hy, rfl⟩ := List.mem_map.1 hp
    obtain ⟨i, hi, rfl⟩ := List.getElem_of_mem hy
    rw [List.length_take] at hi
    have h3 := h2 (by omega)
    by_cases he : i = k - 1
    · subst he; simpa using h3
    · have h4 : i < (l.take k).length := by rw [List.length_take]; omega
      have h5 : k - 1 < (l.take k).length := by rw [List.length_take]; omega
      have := sorted_get (show portsUp (l.take k) from h1) h4 h5 (by omega)
      simp only [List.getElem_take] at this ⊢
      omega
/-- what the loops over lines keep -/
def LnJ (l : List api_Line) (k : Nat) (s : Int) : Prop := s = totF (l.take k) ∧ (∀ x ∈ l.take k, rowOk x) ∧ portsUp (l.take k)
def LnQ (l : List api_Line) : Unit ⊕ Int → Prop
  | .inl _ => ¬ ((∀ x ∈ l, rowOk x) ∧ portsUp l)
  | .inr s => s = totF l ∧ (∀ x ∈ l, rowOk x) ∧ portsUp l
/-- one line -/
def LnB (l : List api_Line) (k : Nat) (b : Bool) : Prop := ∀ h : k < l.length, b = true ↔ ¬ (rowOk l[k] ∧ ∀ h : 0 < k, (l[k - 1]'(by omega)).fPort < l[k].fPort)
theorem lnB_stop {l : List api_Line} {k : Nat} (h : k < l.length) (hb : LnB l k true) : ¬ ((∀ x ∈ l, rowOk x) ∧ portsUp l) := by
  rintro ⟨h1, h2⟩
  exact (hb h).1 rfl ⟨h1 _ (List.getElem_mem h), (up_snoc h).1 (up_take h2) |>.2⟩
theorem lnB_step {l : List api_Line} {k : Nat} {s : Int} (h : k < l.length) (hb : LnB l k false) (hj : LnJ l k s) : LnJ l (k + 1) (w64 (s + l[k].fAmount)) := by
  obtain ⟨rfl, h2, h3⟩ := hj
  have hk : rowOk l[k] ∧ ∀ h : 0 < k, (l[k - 1]'(by omega)).fPort < l[k].fPort := Classical.not_not.1 (mt (hb h).2 (by simp))
  refine ⟨by rw [take_snoc h, totF_snoc], fun x hx => ?_, (up_snoc h).2 ⟨h3, hk.2⟩⟩
  rw [take_snoc h] at hx
  rcases List.mem_append.1 hx with hx | hx
  · exact h2 x hx
  · rw [List.mem_singleton.1 hx]; exact hk.1

theorem cons_loop (v : api_Invoice) (hl : v.fLines.length ≤ 1000000) : Tot (loop (invoice_consistent_L0 v) ((0 : Int), (0 : Int))) (LnQ v.fLines) := by
  refine Tot.rng v.fLines.length (fun k (s : Int) => (s, (k : Int))) (LnJ v.fLines) _ 0 rfl ⟨rfl, by simp, by unfold portsUp; simp⟩ ?_ ?_
  · rintro k s hk hj
    unfold invoice_consistent_L0 invoice_consistent_1
    simp only [Option.bind_some]
    refine Tot.iteT (decide_eq_true (by omega)) (Tot.bindIdx k rfl hk ?_)
    refine Tot.jnR (LnB v.fLines k) (fun j hjj => ?_) ?_
    · refine Tot.ite (fun h0 => hjj _ fun _ => ?_) (fun h0 => ?_)
      · simp only [true_iff]
        intro h
        have := h.1.1
        unfold idOk at this
        simp only [Bool.or_eq_true, decide_eq_true_eq] at h0
        omega
      · have hid : idOk v.fLines[k].fPort := by
          simp only [Bool.or_eq_false_iff, decide_eq_false_iff_not] at h0
          unfold idOk; omega
        refine Tot.ite (fun h1 => ?_) (fun h1 => ?_)
        · have h1 := of_decide_eq_true h1
          rw [show w64 ((k : Int) - 1) = ((k - 1 : Nat) : Int) from by rw [w64_id (by omega) (by omega)]; omega]
          refine Tot.bindIdx (k - 1) rfl (show k - 1 < v.fLines.length by omega) ?_
          refine Tot.ite (fun h2 => hjj _ fun _ => ?_) (fun h2 => ?_)
          · simp only [true_iff]
            intro h
            have := h.2 (by omega)
            have := of_decide_eq_true h2
            omega
          · have h2 := of_decide_eq_false h2
            refine Tot.ite (fun h3 => hjj _ fun _ => ?_) (fun h3 => hjj _ fun _ => ?_)
            · simp only [true_iff]
              intro h
              have := h.1.2.1
              unfold mny at this
              simp only [Bool.not_eq_true', Bool.and_eq_false_iff, decide_eq_false_iff_not] at h3
              omega
            · simp only [Bool.not_eq_false', Bool.and_eq_true, decide_eq_true_eq] at h3
              simp only [Bool.not_eq_true', Bool.and_eq_false_iff, decide_eq_false_iff_not]
              constructor
              · intro h4 h5
                have := h5.1.2.2
                unfold mny at this
                omega
              · intro h4
                have : ¬ mny v.fLines[k].fAmount := fun h5 => h4 ⟨⟨hid, h3, h5⟩, fun _ => by omega⟩
                unfold mny at this
                omega
        · have h1 := of_decide_eq_false h1
          refine Tot.ite (fun h3 => hjj _ fun _ => ?_) (fun h3 => hjj _ fun _ => ?_)
          · simp only [true_iff]
            intro h
            have := h.1.2.1
            unfold mny at this
            simp only [Bool.not_eq_true', Bool.and_eq_false_iff, decide_eq_false_iff_not] at h3
            omega
          · simp only [Bool.not_eq_false', Bool.and_eq_true, decide_eq_true_eq] at h3
            simp only [Bool.not_eq_true', Bool.and_eq_false_iff, decide_eq_false_iff_not]
            constructor
            · intro h4 h5
              have := h5.1.2.2
              unfold mny at this
              omega
            · intro h4
              have : ¬ mny v.fLines[k].fAmount := fun h5 => h4 ⟨⟨hid, h3, h5⟩, fun _ => by omega⟩
              unfold mny at this
              omega
    · intro b hb
      cases b with
      | true => exact Tot.iteT rfl (Tot.stop (lnB_stop hk hb))
      | false => exact Tot.iteF rfl (Tot.step _ (Prod.ext rfl (cast_succ_w hk (by omega))) (lnB_step hk hb hj))
  · rintro s ⟨rfl, h2, h3⟩
    rw [List.take_length] at h2 h3
    unfold invoice_consistent_L0
    exact Tot.iteF (decide_eq_false (by simp only; omega)) (Tot.last ⟨by rw [List.take_length], h2, h3⟩)
theorem cons_loop_ref (v : api_Invoice) (hl : v.fLines.length ≤ 1000000) : Tot (loop (exchangepointref41_Consistent_L0 v) ((0 : Int), (0 : Int))) (LnQ v.fLines) := by
  refine Tot.rng v.fLines.length (fun k (s : Int) => (s, (k : Int))) (LnJ v.fLines) _ 0 rfl ⟨rfl, by simp, by unfold portsUp; simp⟩ ?_ ?_
  · rintro k s hk hj
    unfold exchangepointref41_Consistent_L0
    refine Tot.iteT (decide_eq_true (by simp only; omega)) (Tot.bindIdx k rfl hk ?_)
    refine Tot.jnR (LnB v.fLines k) (fun j hjj => ?_) ?_
    · refine Tot.ite (fun h0 => hjj _ fun _ => ?_) (fun h0 => ?_)
      · simp only [true_iff]
        intro h
        have := h.1.1
        unfold idOk at this
        simp only [Bool.or_eq_true, decide_eq_true_eq] at h0
        omega
      · have hid : idOk v.fLines[k].fPort := by
          simp only [Bool.or_eq_false_iff, decide_eq_false_iff_not] at h0
          unfold idOk; omega
        refine Tot.ite (fun h1 => ?_) (fun h1 => ?_)
        · have h1 := of_decide_eq_true h1
          rw [show w64 ((k : Int) - 1) = ((k - 1 : Nat) : Int) from by rw [w64_id (by omega) (by omega)]; omega]
          refine Tot.bindIdx (k - 1) rfl (show k - 1 < v.fLines.length by omega) (hjj _ fun _ => ?_)
          simp only [Bool.or_eq_true, decide_eq_true_eq]
          constructor
          · rintro h4 ⟨⟨_, h5, h6⟩, h7⟩
            have := h7 (by omega)
            unfold mny at h5 h6
            omega
          · intro h4
            refine Classical.byContradiction fun h5 => h4 ⟨⟨hid, ?_, ?_⟩, fun _ => ?_⟩
            · unfold mny; omega
            · unfold mny; omega
            · omega
        · have h1 := of_decide_eq_false h1
          refine hjj _ fun _ => ?_
          simp only [Bool.or_eq_true, decide_eq_true_eq]
          constructor
          · rintro h4 ⟨⟨_, h5, h6⟩, h7⟩
            unfold mny at h5 h6
            omega
          · intro h4
            refine Classical.byContradiction fun h5 => h4 ⟨⟨hid, ?_, ?_⟩, fun _ => ?_⟩
            · unfold mny; omega
            · unfold mny; omega
            · omega
    · intro b hb
      cases b with
      | true => exact Tot.iteT rfl (Tot.stop (lnB_stop hk hb))
      | false => exact Tot.iteF rfl (Tot.step _ (Prod.ext rfl (cast_succ_w hk (by omega))) (lnB_step hk hb hj))
  · rintro s ⟨rfl, h2, h3⟩
    rw [List.take_length] at h2 h3
    unfold exchangepointref41_Consistent_L0
    exact Tot.iteF (decide_eq_false (by simp only; omega)) (Tot.last ⟨by rw [List.take_length], h2, h3⟩)
def HeadOk (v : api_Invoice) : Prop := asnOk v.fMember ∧ monOk v.fMonth ∧ (1 ≤ v.fVersion ∧ v.fVersion ≤ 1000) ∧ v.fLines.length ≤ 8
theorem cons_tail {v : api_Invoice} (hh : HeadOk v) {f : Unit ⊕ Int → Option Bool} (hf : ∀ u, f (.inl u) = some false) (hf' : ∀ s, f (.inr s) = some (s == v.fTotal)) {x : Unit ⊕ Int} (hx : LnQ v.fLines x) : Tot (f x) (fun b => b = true ↔ ConsP v) := by
  obtain ⟨h1, h2, h3, h4⟩ := hh
  cases x with
  | inl u =>
    rw [hf]
    exact Tot.some ⟨fun e => (by cases e), fun c => absurd ⟨c.rows, c.up⟩ hx⟩
  | inr s =>
    rw [hf']
    obtain ⟨rfl, h5, h6⟩ := hx
    refine Tot.some ?_
    rw [beq_iff_eq]
    exact ⟨fun e => ⟨h1, h2, h3, h4, h5, h6, e⟩, fun c => c.tot⟩
theorem cons_eq (v : api_Invoice) : Tot (invoice_consistent v) (fun b => b = true ↔ ConsP v) := by
  unfold invoice_consistent
  refine Tot.jnR (fun b : Bool => b = true ↔ ¬ HeadOk v) (fun j hj => ?_) ?_
  · rw [member_eq, Option.bind_some]
    refine Tot.ite (fun h1 => hj _ ?_) (fun h1 => ?_)
    · simp only [Bool.not_eq_true', Bool.and_eq_false_iff, decide_eq_false_iff_not] at h1
      simp only [true_iff]
      intro h
      have := h.1
      unfold asnOk at this
      omega
    · rw [month_eq, Option.bind_some]
      refine hj _ ?_
      simp only [Bool.not_eq_false', Bool.and_eq_true, decide_eq_true_eq] at h1
      simp only [Bool.or_eq_true, Bool.not_eq_true', Bool.and_eq_false_iff, decide_eq_false_iff_not, decide_eq_true_eq]
      unfold HeadOk asnOk monOk
      omega
  · intro b hb
    refine Tot.ite (fun h => Tot.some ⟨fun e => (by cases e), fun c => absurd ⟨c.asn, c.mon, c.ver, c.few⟩ (hb.1 h)⟩) (fun h => ?_)
    have hh : HeadOk v := Classical.not_not.1 (mt hb.2 (by rw [h]; simp))
    refine Tot.bindT (cons_loop v (by have := hh.2.2.2; omega)) fun x hx => ?_
    exact cons_tail (f := fun x => match x with | .inl _ => some false | .inr p => some (p == v.fTotal)) hh (fun _ => rfl) (fun _ => rfl) hx
theorem cons_ref (v : api_Invoice) : Tot (exchangepointref41_Consistent v) (fun b => b = true ↔ ConsP v) := by
  unfold exchangepointref41_Consistent
  refine Tot.ite (fun h => Tot.some ⟨fun e => (by cases e), fun c => ?_⟩) (fun h => ?_)
  · have h1 := c.asn; have h2 := c.mon; have h3 := c.ver; have h4 := c.few
    unfold asnOk at h1; unfold monOk at h2
    simp only [Bool.or_eq_true, decide_eq_true_eq] at h
    omega
  · have hh : HeadOk v := by
      simp only [Bool.or_eq_false_iff, decide_eq_false_iff_not] at h
      unfold HeadOk asnOk monOk
      omega
    refine Tot.bindT (cons_loop_ref v (by have := hh.2.2.2; omega)) fun x hx => ?_
    exact cons_tail (f := fun x => match x with | .inl _ => some false | .inr p => some (p == v.fTotal)) hh (fun _ => rfl) (fun _ => rfl) hx
end Go.Proofs.Ytimcphncaffenaa

/- Chapter 37, fourth part: merging from the end, cutting, dealing. -/
import Derived.Test.YtdjdoeengjdmmaaPureC
namespace Go.Proofs.Ytdjdoeengjdmmaa
open Go Go.Vc

-- reversing in place

def RevI (l c : List api_Sample) (k : Nat) : Prop := c.length = l.length ∧ ∀ t, t < l.length → c[t]? = if t < k ∨ l.length ≤ t + k then l[l.length - 1 - t]? else l[t]?
theorem reverse_eq (l : List api_Sample) (hl : l.length ≤ 4611686018427387904) : slices_Reverse l = some l.reverse := by
  unfold slices_Reverse
  refine Tot.eq ?_
  refine Tot.bindLoop (fun s : Int × Int × List api_Sample => ∃ k : Nat, s.1 = k ∧ s.2.1 = (l.length : Int) - 1 - k ∧ 2 * k ≤ l.length + 1 ∧ RevI l s.2.2 k) (fun s => l.length - s.1.toNat) (fun x => x = l.reverse)
    ⟨0, rfl, by simp only; rw [w64_id (by omega) (by omega)]; omega, by omega, rfl, fun t ht => by simp; omega⟩ ?_ (fun x hx => Tot.some hx)
  rintro ⟨s1, s2, c⟩ ⟨k, e1, e2, hk, hlen, hI⟩
  simp only at e1 e2 hlen hI
  subst e1; subst e2
  unfold slices_Reverse_L0
  simp only
  refine Tot.ite (fun h => ?_) (fun h => ?_)
  · have hlt : (k : Int) < (l.length : Int) - 1 - k := by simpa using h
    have hj : (l.length : Int) - 1 - (k : Int) = ((l.length - 1 - k : Nat) : Int) := by omega
    rw [hj]
    have kc : k < c.length := by omega
    have jc : l.length - 1 - k < c.length := by omega
    refine Tot.bindIdx _ rfl jc (Tot.bindIdx _ rfl jc (Tot.bindIdx _ rfl kc (Tot.bindIdx _ rfl kc (Tot.bindIdx _ rfl kc (Tot.bindIdx _ rfl kc ?_)))))
    refine Tot.bindIdx (l.length - 1 - k) rfl (by simpa using jc) (Tot.bindIdx (l.length - 1 - k) rfl (by simpa using jc) ?_)
    rw [w64_id (by omega) (by omega), w64_id (by omega) (by omega)]
    refine Tot.next ⟨k + 1, by simp, by simp only; omega, by omega, by simp [hlen], fun t ht => ?_⟩ (by simp only [show ((k : Int) + 1).toNat = k + 1 from by omega, Int.toNat_natCast]; omega)
    simp only [Int.toNat_natCast]
    by_cases t1 : t = l.length - 1 - k
    · subst t1
      rw [List.getElem?_set_self (by simpa using jc), if_pos (by omega), show l.length - 1 - (l.length - 1 - k) = k from by omega, ← List.getElem?_eq_getElem kc, hI k (by omega), if_neg (by omega)]
    · rw [List.getElem?_set_ne (Ne.symm t1)]
      by_cases t2 : t = k
      · subst t2
        rw [List.getElem?_set_self kc, if_pos (by omega), ← List.getElem?_eq_getElem jc, hI _ (by omega), if_neg (by omega)]
      · rw [List.getElem?_set_ne (Ne.symm t2), hI t ht]
        by_cases t3 : t < k ∨ l.length ≤ t + k
        · rw [if_pos t3, if_pos (by omega)]
        · rw [if_neg t3, if_neg (by omega)]
  · have hge : (l.length : Int) - 1 - k ≤ (k : Int) := by simp at h; omega
    refine Tot.out (List.ext_getElem? fun t => ?_)
    by_cases ht : t < l.length
    · rw [hI t ht, List.getElem?_reverse ht]
      by_cases t3 : t < k ∨ l.length ≤ t + k
      · rw [if_pos t3]
      · rw [if_neg t3, show l.length - 1 - t = t from by omega]
    · rw [List.getElem?_eq_none (by omega), List.getElem?_eq_none (by simp; omega)]

-- backward

structure BI (a b : List api_Sample) (d : Bool) (p q : Nat) (out : List api_Sample) : Prop where
  hp : p ≤ a.length
  hq : q ≤ b.length
  desc : out.Pairwise (fun x y => y.fSeq < x.fSeq)
  ua : ∀ o ∈ out, ∀ x ∈ a.take p, x.fSeq < o.fSeq
  ub : ∀ o ∈ out, ∀ x ∈ b.take q, x.fSeq < o.fSeq
  mem : d = false → ∀ o, o ∈ out ↔ o ∈ a.drop p ∨ o ∈ b.drop q
  cf : d = true → conf a b
  len : out.length ≤ (a.length - p) + (b.length - q)

theorem BI.swap {a b out : List api_Sample} {d : Bool} {p q : Nat} (h : BI a b d p q out) : BI b a d q p out :=
  ⟨h.hq, h.hp, h.desc, h.ub, h.ua, fun e o => (h.mem e o).trans or_comm, fun e => by obtain ⟨x, hx, y, hy, h1, h2⟩ := h.cf e; exact ⟨y, hy, x, hx, h1.symm, fun e => h2 e.symm⟩, by have := h.len; omega⟩
theorem BI.a {a b out : List api_Sample} {d : Bool} {p q : Nat} (ha : S a) (h : BI a b d (p + 1) q out) (hp : p < a.length) (hb : ∀ x ∈ b.take q, x.fSeq < a[p].fSeq) : BI a b d p q (out ++ [a[p]]) := by
  refine ⟨by omega, h.hq, ?_, fun o ho x hx => ?_, fun o ho x hx => ?_, fun e o => ?_, h.cf, by have := h.len; simp; omega⟩
  · rw [List.pairwise_append]
    exact ⟨h.desc, List.pairwise_singleton _ _, fun x hx y hy => by rw [List.mem_singleton.1 hy]; exact h.ua x hx _ (prev_mem hp)⟩
  · rcases List.mem_append.1 ho with ho | ho
    · exact h.ua o ho x ((mem_take_succ hp _).2 (.inl hx))
    · rw [List.mem_singleton.1 ho]; exact ha.below hp hx
  · rcases List.mem_append.1 ho with ho | ho
    · exact h.ub o ho x hx
    · rw [List.mem_singleton.1 ho]; exact hb x hx
  · rw [List.mem_append, h.mem e o, mem_drop_cons hp, List.mem_singleton]
    constructor
    · rintro ((h | h) | h) <;> simp [h]
    · rintro ((h | h) | h) <;> simp [h]
theorem BI.both {a b out : List api_Sample} {d d' : Bool} {p q : Nat} (ha : S a) (hb : S b) (h : BI a b d (p + 1) (q + 1) out) (hp : p < a.length) (hq : q < b.length) (e : a[p].fSeq = b[q].fSeq) (hd : d' = true ↔ d = true ∨ a[p] ≠ b[q]) : BI a b d' p q (out ++ [a[p]]) := by
  refine ⟨by omega, by omega, ?_, fun o ho x hx => ?_, fun o ho x hx => ?_, fun e' o => ?_, fun e' => ?_, by have := h.len; simp; omega⟩
  · rw [List.pairwise_append]
    exact ⟨h.desc, List.pairwise_singleton _ _, fun x hx y hy => by rw [List.mem_singleton.1 hy]; exact h.ua x hx _ (prev_mem hp)⟩
  · rcases List.mem_append.1 ho with ho | ho
    · exact h.ua o ho x ((mem_take_succ hp _).2 (.inl hx))
    · rw [List.mem_singleton.1 ho]; exact ha.below hp hx
  · rcases List.mem_append.1 ho with ho | ho
    · exact h.ub o ho x ((mem_take_succ hq _).2 (.inl hx))
    · rw [List.mem_singleton.1 ho, e]; exact hb.below hq hx
  · have nd : d = false := by cases d <;> simp_all
    have ne : a[p] = b[q] := Classical.byContradiction fun hne => by have := hd.2 (.inr hne); rw [e'] at this; cases this
    rw [List.mem_append, h.mem nd o, mem_drop_cons hp, mem_drop_cons hq, List.mem_singleton, ← ne]
    constructor
    · rintro ((h | h) | h) <;> simp [h]
    · rintro ((h | h) | (h | h)) <;> simp [h]
  · rcases hd.1 e' with h1 | h1
    · exact h.cf h1
    · exact ⟨_, List.getElem_mem hp, _, List.getElem_mem hq, e, h1⟩

theorem sample_merge (a b : List api_Sample) (ha : a.length ≤ 1000000) (hb : b.length ≤ 1000000) : Tot (sample_Merge a b) (MergeR a b) := by
  unfold sample_Merge
  refine Tot.jn ?_
  refine Tot.bindT (sample_valid a (by omega)) fun r1 h1 => ?_
  have bad : ¬ (VOk a ∧ VOk b) → Tot (some (([] : List api_Sample), (1 : Int))) (MergeR a b) := fun h => Tot.some (.inl ⟨h, rfl⟩)
  refine Tot.ite (fun c1 => ?_) (fun c1 => ?_)
  · refine Tot.ite (fun _ => bad fun h => ?_) (fun c => by cases c)
    rw [h1.2 h.1] at c1; cases c1
  · have va : VOk a := h1.1 (by simpa using c1)
    refine Tot.bindT (sample_valid b (by omega)) fun r2 h2 => ?_
    refine Tot.ite (fun c2 => bad fun h => ?_) (fun c2 => ?_)
    · rw [h2.2 h.2] at c2; cases c2
    have vb : VOk b := h2.1 (by simpa using c2)
    have sa := va.1.S
    have sb := vb.1.S
    have la := va.2
    have lb := vb.2
    refine Tot.bindLoop (fun s : Bool × Int × Int × List api_Sample => ∃ p q : Nat, s.2.1 = (p : Int) - 1 ∧ s.2.2.1 = (q : Int) - 1 ∧ BI a b s.1 p q s.2.2.2) (fun s => (s.2.1 + 1).toNat + (s.2.2.1 + 1).toNat)
      (fun x => x.2.length ≤ 2000 ∧ (x.1 = true → conf a b) ∧ (x.1 = false → Mg a b x.2.reverse))
      ⟨a.length, b.length, by simp only; rw [w64_id (by omega) (by omega)], by simp only; rw [w64_id (by omega) (by omega)], Nat.le_refl _, Nat.le_refl _, .nil, fun o ho => (by cases ho), fun o ho => (by cases ho), fun _ o => by simp, fun e => (by cases e), by simp⟩ ?_ ?_
    · rintro ⟨d, s1, s2, out⟩ ⟨p, q, e1, e2, hI⟩
      have hlen := hI.len
      have hpl := hI.hp
      have hql := hI.hq
      simp only at e1 e2 hI hlen
      subst e1; subst e2
      unfold sample_Merge_L0
      simp only
      have hlim : ∀ x : api_Sample, decide ((out ++ [x]).length ≤ LIM) = true := fun x => by simp [LIM]; omega
      refine Tot.ite (fun c => ?_) (fun c => ?_)
      · simp only [Bool.or_eq_true, decide_eq_true_eq] at c
        have takeb : (hq : q - 1 < b.length) → 1 ≤ q → ∀ v : Int, b[q - 1].fSeq < v → ∀ x ∈ b.take q, x.fSeq < v := fun hq h1 v hv x hx => by
          rw [show q = q - 1 + 1 from by omega] at hx
          rcases (mem_take_succ hq x).1 hx with hx | e
          · have := sb.below hq hx; omega
          · rw [e]; exact hv
        have takea : (hp : p - 1 < a.length) → 1 ≤ p → ∀ v : Int, a[p - 1].fSeq < v → ∀ x ∈ a.take p, x.fSeq < v := fun hp h1 v hv x hx => by
          rw [show p = p - 1 + 1 from by omega] at hx
          rcases (mem_take_succ hp x).1 hx with hx | e
          · have := sa.below hp hx; omega
          · rw [e]; exact hv
        have ip : 1 ≤ p → (p : Int) - 1 = ((p - 1 : Nat) : Int) := fun _ => by omega
        have iq : 1 ≤ q → (q : Int) - 1 = ((q - 1 : Nat) : Int) := fun _ => by omega
        have wp : w64 ((p : Int) - 1 - 1) = (p : Int) - 1 - 1 := w64_id (by omega) (by omega)
        have wq : w64 ((q : Int) - 1 - 1) = (q : Int) - 1 - 1 := w64_id (by omega) (by omega)
        rw [wp, wq]
        refine Tot.jnR (fun m : Bool => (m = true → 1 ≤ p ∧ ∀ hp : p - 1 < a.length, ∀ x ∈ b.take q, x.fSeq < a[p - 1].fSeq) ∧ (m = false → 1 ≤ q ∧ ∀ hq : q - 1 < b.length, 1 ≤ p → ∀ hp : p - 1 < a.length, a[p - 1].fSeq ≤ b[q - 1].fSeq)) (fun j hj => ?_) (fun m hm => ?_)
        · refine Tot.ite (fun d1 => ?_) (fun d1 => ?_)
          · have : q = 0 := by simp at d1; omega
            subst this
            exact hj _ ⟨fun _ => ⟨by omega, fun hp x hx => by simp at hx⟩, fun e => (by cases e)⟩
          · have hq : 1 ≤ q := by simp at d1; omega
            refine Tot.ite (fun d2 => ?_) (fun d2 => ?_)
            · have hp : 1 ≤ p := by simp at d2; omega
              refine Tot.bindIdx (p - 1) (ip hp) (by omega) (Tot.bindIdx (q - 1) (iq hq) (by omega) (hj _ ⟨fun d3 => ⟨hp, fun _ => takeb (by omega) hq _ (by simpa using d3)⟩, fun d3 => ⟨hq, fun _ _ _ => by simp at d3; omega⟩⟩))
            · exact hj _ ⟨fun e => (by cases e), fun _ => ⟨hq, fun _ hp _ => by simp at d2; omega⟩⟩
        · refine Tot.ite (fun e => ?_) (fun e => ?_)
          · obtain ⟨hp, hx⟩ := hm.1 e
            obtain ⟨p, rfl⟩ : ∃ p', p = p' + 1 := ⟨p - 1, by omega⟩
            have hpa : p < a.length := by omega
            exact Tot.bindIdx p (by omega) hpa (Tot.chk (hlim _) (Tot.next ⟨p, q, by simp only; omega, rfl, hI.a sa hpa (hx hpa)⟩ (by simp only; omega)))
          · obtain ⟨hq, hle⟩ := hm.2 e
            obtain ⟨q, rfl⟩ : ∃ q', q = q' + 1 := ⟨q - 1, by omega⟩
            have hqb : q < b.length := by omega
            refine Tot.jnR (fun m : Bool => (m = true → ∀ x ∈ a.take p, x.fSeq < b[q].fSeq) ∧ (m = false → 1 ≤ p ∧ ∀ hp : p - 1 < a.length, a[p - 1].fSeq = b[q].fSeq)) (fun j hj => ?_) (fun m hm => ?_)
            · refine Tot.ite (fun d2 => ?_) (fun d2 => ?_)
              · have : p = 0 := by simp at d2; omega
                subst this
                exact hj _ ⟨fun _ x hx => by simp at hx, fun e => (by cases e)⟩
              · have hp : 1 ≤ p := by simp at d2; omega
                refine Tot.bindIdx q (by omega) hqb (Tot.bindIdx (p - 1) (ip hp) (by omega) (hj _ ⟨fun d3 => takea (by omega) hp _ (by simpa using d3), fun d3 => ⟨hp, fun h => ?_⟩⟩))
                have := hle hqb hp h
                simp at d3 this
                omega
            · refine Tot.ite (fun e => ?_) (fun e => ?_)
              · exact Tot.bindIdx q (by omega) hqb (Tot.chk (hlim _) (Tot.next ⟨p, q, rfl, by simp only; omega, (hI.swap.a sb hqb (hm.1 e)).swap⟩ (by simp only; omega)))
              · obtain ⟨hp, heq⟩ := hm.2 e
                obtain ⟨p, rfl⟩ : ∃ p', p = p' + 1 := ⟨p - 1, by omega⟩
                have hpa : p < a.length := by omega
                have heq := heq hpa
                refine Tot.jnR (fun m : Bool => m = true ↔ d = true ∨ a[p] ≠ b[q]) (fun j hj => ?_) (fun m hm => ?_)
                · refine Tot.ite (fun d2 => hj _ (by simp [d2])) (fun d2 => ?_)
                  refine Tot.bindIdx p (by omega) hpa (Tot.bindIdx q (by omega) hqb (hj _ ?_))
                  rw [Bool.not_eq_true', Bool.eq_false_iff, d2]
                  constructor
                  · intro h; exact .inr fun e => h ((beq6 _ _).2 e)
                  · rintro (h | h)
                    · cases h
                    · exact fun e => h ((beq6 _ _).1 e)
                · exact Tot.bindIdx p (by omega) hpa (Tot.chk (hlim _) (Tot.next ⟨p, q, by simp only; omega, by simp only; omega, hI.both sa sb hpa hqb heq hm⟩ (by simp only; omega)))
      · simp only [Bool.or_eq_false_iff, decide_eq_false_iff_not] at c
        obtain rfl : p = 0 := by omega
        obtain rfl : q = 0 := by omega
        refine Tot.out ⟨by simp only; omega, hI.cf, fun e => ⟨?_, fun x => ?_⟩⟩
        · show List.Pairwise _ _
          rw [List.pairwise_reverse]; exact hI.desc
        · simp only [List.mem_reverse]
          rw [hI.mem e x, List.drop_zero, List.drop_zero]
    · rintro ⟨d, out⟩ ⟨hl, hc, hm⟩
      simp only at hl hc hm ⊢
      refine Tot.bindOf (reverse_eq out (by omega)) ?_
      refine Tot.chk (by simp) ?_
      refine Tot.ite (fun e => Tot.some (.inr (.inl ⟨va, vb, hc e, rfl⟩))) (fun e => ?_)
      have hm := hm e
      have nc : ¬ conf a b := by
        rintro ⟨x, hx, y, hy, e, hne⟩
        exact hne (hm.1.inj ((hm.2 x).2 (.inl hx)) ((hm.2 y).2 (.inr hy)) e)
      refine Tot.ite (fun c => ?_) (fun c => ?_)
      · exact Tot.some (.inr (.inr ⟨va, vb, nc, _, hm, .inl ⟨by simp at c ⊢; omega, rfl⟩⟩))
      · have hl : out.reverse.length ≤ 1000 := by simp at c ⊢; omega
        refine Tot.bindT (sample_valid _ (by omega)) fun r3 h3 => ?_
        refine Tot.ite (fun c3 => ?_) (fun c3 => ?_)
        · refine Tot.some (.inr (.inr ⟨va, vb, nc, _, hm, .inr (.inl ⟨hl, fun ho => ?_, rfl⟩)⟩))
          rw [h3.2 ⟨ho, hl⟩] at c3; cases c3
        · exact Tot.some (.inr (.inr ⟨va, vb, nc, _, hm, .inr (.inr ⟨hl, (h3.1 (by simpa using c3)).1, rfl⟩)⟩))
end Go.Proofs.Ytdjdoeengjdmmaa

/- Chapter 37, third part: lists of samples: valid, merged, dealt. -/
import Derived.Test.YtdjdoeengjdmmaaPureB
import Derived.Test.YtdjdoeengjdmmaaVcS
namespace Go.Proofs.Ytdjdoeengjdmmaa
open Go Go.Vc

def Ok (l : List api_Sample) : Prop := (∀ s ∈ l, sOk s) ∧ l.Pairwise after
theorem ok_nil : Ok [] := ⟨fun _ h => (by cases h), .nil⟩
theorem after_trans {a b c : api_Sample} (h : after a b) (k : after b c) : after a c := by unfold after at *; omega
theorem prev_mem {α : Type} {l : List α} {m : Nat} (h : m < l.length) : l[m] ∈ l.take (m + 1) := by
  rw [take_succ_get (List.getElem?_eq_getElem h)]; exact List.mem_append_right _ (List.mem_singleton.2 rfl)

theorem ok_take_succ {l : List api_Sample} {k : Nat} (hk : k < l.length) (h : Ok (l.take k)) (hs : sOk l[k]) (hp : ∀ m (_ : k = m + 1), after (l[m]'(by omega)) l[k]) : Ok (l.take (k + 1)) := by
  rw [take_succ_get (List.getElem?_eq_getElem hk)]
  refine ⟨fun s hm => ?_, ?_⟩
  · rcases List.mem_append.1 hm with hm | hm
    · exact h.1 s hm
    · rw [List.mem_singleton.1 hm]; exact hs
  · rw [List.pairwise_append]
    refine ⟨h.2, List.pairwise_singleton _ _, fun x hx y hy => ?_⟩
    rw [List.mem_singleton.1 hy]
    cases k with
    | zero => simp at hx
    | succ m =>
      have hm := hp m rfl
      rw [take_succ_get (List.getElem?_eq_getElem (by omega : m < l.length))] at hx
      rcases List.mem_append.1 hx with hx | hx
      · have := h.2
        rw [take_succ_get (List.getElem?_eq_getElem (by omega : m < l.length)), List.pairwise_append] at this
        exact after_trans (this.2.2 x hx l[m] (List.mem_singleton.2 rfl)) hm
      · rw [List.mem_singleton.1 hx]; exact hm

theorem sample_valid (l : List api_Sample) (hl : l.length ≤ 4611686018427387904) : Tot (sample_Valid l) (fun b => b = true ↔ Ok l ∧ l.length ≤ 1000) := by
  unfold sample_Valid
  refine Tot.ite (fun h => ?_) (fun h => ?_)
  · have : 1000 < (l.length : Int) := by simpa using h
    exact Tot.some ⟨fun e => (by cases e), fun e => by omega⟩
  · have hlen : l.length ≤ 1000 := by simp at h; omega
    refine Tot.bindLoop (fun s : Int => ∃ k : Nat, s = (k : Int) ∧ k ≤ l.length ∧ Ok (l.take k)) (fun s => l.length - s.toNat) (fun x => match x with | .inl _ => ¬ Ok l | .inr _ => Ok l) ⟨0, rfl, Nat.zero_le _, ok_nil⟩ ?_ ?_
    · rintro s ⟨k, rfl, hk, hok⟩
      unfold sample_Valid_L0
      refine Tot.ite (fun h => ?_) (fun h => ?_)
      · have hlt : k < l.length := by simpa using h
        have hw := cast_succ_w hlt hl
        have go : sOk l[k] → (∀ m (_ : k = m + 1), after (l[m]'(by omega)) l[k]) → Tot (some (Sum.inr (w64 ((k : Int) + 1)) : (Unit ⊕ Unit) ⊕ Int)) (Rnd (fun s : Int => ∃ k : Nat, s = (k : Int) ∧ k ≤ l.length ∧ Ok (l.take k)) (fun s => l.length - s.toNat) (fun x => match x with | .inl _ => ¬ Ok l | .inr _ => Ok l) (k : Int)) := fun h1 h2 =>
          Tot.next ⟨k + 1, hw, hlt, ok_take_succ hlt hok h1 h2⟩ (by rw [hw]; simp only [Int.toNat_natCast]; omega)
        refine Tot.jn ?_
        refine Tot.bindIdx k rfl hlt ?_
        refine Tot.bindOf (single_eq _) ?_
        refine Tot.ite (fun h1 => ?_) (fun h1 => ?_)
        · refine Tot.out fun ho => ?_
          have := ho.1 _ (List.getElem_mem hlt)
          simp [this] at h1
        · have hs : sOk l[k] := by simpa using h1
          refine Tot.ite (fun h2 => ?_) (fun h2 => ?_)
          · have : k = 0 := by simpa using h2
            exact go hs (fun m e => by omega)
          · obtain ⟨m, rfl⟩ : ∃ m, k = m + 1 := ⟨k - 1, by simp at h2; omega⟩
            have hp : sOk (l[m]'(by omega)) := hok.1 _ (prev_mem (by omega))
            refine Tot.bindIdx m (cast_pred_w (n := l.length) (by omega) hl) (by omega) ?_
            have e1 : w64 (l[m + 1].fPool - (l[m]'(by omega)).fPool) = l[m + 1].fPool - (l[m]'(by omega)).fPool := w64_id (by unfold sOk at hs hp; omega) (by unfold sOk at hs hp; omega)
            have e2 : w64 (l[m + 1].fSeq - (l[m]'(by omega)).fSeq) = l[m + 1].fSeq - (l[m]'(by omega)).fSeq := w64_id (by unfold sOk at hs hp; omega) (by unfold sOk at hs hp; omega)
            rw [e1, e2]
            refine Tot.ite (fun h3 => ?_) (fun h3 => ?_)
            · refine Tot.out fun ho => ?_
              have := List.pairwise_iff_getElem.1 ho.2 m (m + 1) (by omega) hlt (by omega)
              unfold after at this
              simp only [Bool.or_eq_true, decide_eq_true_eq] at h3
              omega
            · refine go hs (fun m' e => ?_)
              obtain rfl : m = m' := by omega
              unfold after
              simp only [Bool.or_eq_false_iff, decide_eq_false_iff_not] at h3
              omega
      · have : k = l.length := by simp at h; omega
        subst this
        rw [List.take_length] at hok
        exact Tot.out hok
    · intro x hx
      cases x with
      | inl _ => exact Tot.some ⟨fun e => (by cases e), fun e => absurd e.1 hx⟩
      | inr _ => exact Tot.some ⟨fun _ => ⟨hx, hlen⟩, fun _ => rfl⟩

theorem ref_valid (l : List api_Sample) (hl : l.length ≤ 4611686018427387904) : Tot (exchangepointref37_Valid l) (fun b => b = true ↔ Ok l ∧ l.length ≤ 1000) := by
  unfold exchangepointref37_Valid
  refine Tot.bindLoop (fun s : Int => ∃ k : Nat, s = (k : Int) ∧ k ≤ l.length ∧ Ok (l.take k)) (fun s => l.length - s.toNat) (fun x => match x with | .inl _ => ¬ Ok l | .inr _ => Ok l) ⟨0, rfl, Nat.zero_le _, ok_nil⟩ ?_ ?_
  · rintro s ⟨k, rfl, hk, hok⟩
    unfold exchangepointref37_Valid_L0
    refine Tot.ite (fun h => ?_) (fun h => ?_)
    · have hlt : k < l.length := by simpa using h
      have hw := cast_succ_w hlt hl
      refine Tot.bindIdx k rfl hlt ?_
      refine Tot.jn ?_
      refine Tot.ite (fun h2 => ?_) (fun h2 => ?_)
      · obtain ⟨m, rfl⟩ : ∃ m, k = m + 1 := ⟨k - 1, by simp at h2; omega⟩
        have hp : sOk (l[m]'(by omega)) := hok.1 _ (prev_mem (by omega))
        refine Tot.bindIdx m (cast_pred_w (n := l.length) (by omega) hl) (by omega) ?_
        refine Tot.ite (fun h3 => ?_) (fun h3 => ?_)
        · rw [Bool.not_eq_true'] at h3
          refine Tot.out fun ho => absurd ?_ (Bool.eq_false_iff.1 h3)
          have hs := ho.1 _ (List.getElem_mem hlt)
          have ha := List.pairwise_iff_getElem.1 ho.2 m (m + 1) (by omega) hlt (by omega)
          unfold after at ha
          unfold sOk at hs hp
          rw [w64_id (by omega) (by omega), w64_id (by omega) (by omega)]
          simp only [Bool.and_eq_true, decide_eq_true_eq]
          omega
        · simp only [Bool.not_eq_false', Bool.and_eq_true, decide_eq_true_eq] at h3
          have hs : sOk l[m + 1] := by unfold sOk; omega
          have hs' := hs
          unfold sOk at hs' hp
          rw [w64_id (by omega) (by omega), w64_id (by omega) (by omega)] at h3
          refine Tot.next ⟨m + 1 + 1, hw, hlt, ok_take_succ hlt hok hs (fun m' e => ?_)⟩ (by rw [hw]; simp only [Int.toNat_natCast]; omega)
          obtain rfl : m = m' := by omega
          unfold after
          omega
      · have : k = 0 := by simp at h2; omega
        subst this
        refine Tot.ite (fun h3 => ?_) (fun h3 => ?_)
        · rw [Bool.not_eq_true'] at h3
          refine Tot.out fun ho => absurd ?_ (Bool.eq_false_iff.1 h3)
          have hs := ho.1 _ (List.getElem_mem hlt)
          unfold sOk at hs
          simp only [Bool.and_eq_true, decide_eq_true_eq]
          omega
        · simp only [Bool.not_eq_false', Bool.and_eq_true, decide_eq_true_eq] at h3
          have hs : sOk l[0] := by unfold sOk; omega
          exact Tot.next ⟨0 + 1, hw, hlt, ok_take_succ hlt hok hs (fun m' e => by omega)⟩ (by rw [hw]; simp only [Int.toNat_natCast]; omega)
    · have : k = l.length := by simp at h; omega
      subst this
      rw [List.take_length] at hok
      exact Tot.out hok
  · intro x hx
    cases x with
    | inl _ => exact Tot.some ⟨fun e => (by cases e), fun e => absurd e.1 hx⟩
    | inr _ => exact Tot.some ⟨fun e => ⟨hx, by simp at e; omega⟩, fun e => by simp; omega⟩

-- strictly ascending numbers

abbrev S (l : List api_Sample) : Prop := l.Pairwise (fun x y => x.fSeq < y.fSeq)
theorem Ok.S {l : List api_Sample} (h : Ok l) : S l := h.2.imp (fun h => h.1)
theorem S.below {l : List api_Sample} (h : S l) {k : Nat} (hk : k < l.length) {x : api_Sample} (hx : x ∈ l.take k) : x.fSeq < l[k].fSeq := by
  rw [← List.take_append_drop k l] at h
  unfold S at h
  rw [List.pairwise_append] at h
  exact h.2.2 x hx _ (by rw [List.drop_eq_getElem_cons hk]; exact List.mem_cons_self ..)
theorem S.above {l : List api_Sample} (h : S l) {k : Nat} (hk : k < l.length) {x : api_Sample} (hx : x ∈ l.drop (k + 1)) : l[k].fSeq < x.fSeq := by
  rw [← List.take_append_drop (k + 1) l] at h
  unfold S at h
  rw [List.pairwise_append] at h
  exact h.2.2 _ (prev_mem hk) x hx
theorem S.inj {l : List api_Sample} (h : S l) {x y : api_Sample} (hx : x ∈ l) (hy : y ∈ l) (e : x.fSeq = y.fSeq) : x = y := by
  obtain ⟨i, hi, rfl⟩ := List.getElem_of_mem hx
  obtain ⟨j, hj, rfl⟩ := List.getElem_of_mem hy
  rcases Nat.lt_trichotomy i j with h1 | h1 | h1
  · have := List.pairwise_iff_getElem.1 h i j hi hj h1; omega
  · subst h1; rfl
  · have := List.pairwise_iff_getElem.1 h j i hj hi h1; omega
theorem S.uniq {l m : List api_Sample} (h : S l) (k : S m) (e : ∀ x, x ∈ l ↔ x ∈ m) : l = m := sorted_unique (fun x y h1 h2 => by omega) h k e

def VOk (l : List api_Sample) : Prop := Ok l ∧ l.length ≤ 1000
def conf (a b : List api_Sample) : Prop := ∃ x ∈ a, ∃ y ∈ b, x.fSeq = y.fSeq ∧ x ≠ y
def Mg (a b m : List api_Sample) : Prop := S m ∧ ∀ x, x ∈ m ↔ x ∈ a ∨ x ∈ b
/-- the answer of a merge -/
def MergeR (a b : List api_Sample) (r : List api_Sample × Int) : Prop :=
  (¬ (VOk a ∧ VOk b) ∧ r = ([], 1)) ∨ (VOk a ∧ VOk b ∧ conf a b ∧ r = ([], 8)) ∨
  (VOk a ∧ VOk b ∧ ¬ conf a b ∧ ∃ m, Mg a b m ∧ ((1000 < m.length ∧ r = ([], 3)) ∨ (m.length ≤ 1000 ∧ ¬ Ok m ∧ r = ([], 35)) ∨ (m.length ≤ 1000 ∧ Ok m ∧ r = (m, 0))))
theorem MergeR.det {a b : List api_Sample} {r r' : List api_Sample × Int} (h : MergeR a b r) (k : MergeR a b r') : r = r' := by
  rcases h with ⟨h1, rfl⟩ | ⟨h1, h2, h3, rfl⟩ | ⟨h1, h2, h3, m, hm, h4⟩ <;> rcases k with ⟨k1, rfl⟩ | ⟨k1, k2, k3, rfl⟩ | ⟨k1, k2, k3, m', hm', k4⟩
  · rfl
  · exact absurd ⟨k1, k2⟩ h1
  · exact absurd ⟨k1, k2⟩ h1
  · exact absurd ⟨h1, h2⟩ k1
  · rfl
  · exact absurd h3 k3
  · exact absurd ⟨h1, h2⟩ k1
  · exact absurd k3 h3
  · have : m = m' := hm.1.uniq hm'.1 (fun x => (hm.2 x).trans (hm'.2 x).symm)
    subst this
    rcases h4 with ⟨h4, rfl⟩ | ⟨h4, h5, rfl⟩ | ⟨h4, h5, rfl⟩ <;> rcases k4 with ⟨k4, rfl⟩ | ⟨k4, k5, rfl⟩ | ⟨k4, k5, rfl⟩ <;> first | rfl | omega | exact absurd h5 k5 | exact absurd k5 h5
theorem MergeR.fine {a b m : List api_Sample} {r : List api_Sample × Int} (h : MergeR a b r) (ha : VOk a) (hb : VOk b) (hm : VOk m) (hg : ∀ x, x ∈ m ↔ x ∈ a ∨ x ∈ b) : r = (m, 0) := by
  have hs := hm.1.S
  refine h.det (.inr (.inr ⟨ha, hb, ?_, m, ⟨hs, hg⟩, .inr (.inr ⟨hm.2, hm.1, rfl⟩)⟩))
  rintro ⟨x, hx, y, hy, e, hne⟩
  exact hne (hs.inj ((hg x).2 (.inl hx)) ((hg y).2 (.inr hy)) e)

theorem beq6 (x y : api_Sample) : ((x.fTick == y.fTick) && ((x.fSeq == y.fSeq) && ((x.fPool == y.fPool) && ((x.fIn == y.fIn) && ((x.fOut == y.fOut) && ((x.fBytes == y.fBytes) && true)))))) = true ↔ x = y := by
  cases x; cases y
  simp

-- forward

structure FI (a b : List api_Sample) (p q : Nat) (out : List api_Sample) : Prop where
  hp : p ≤ a.length
  hq : q ≤ b.length
  asc : S out
  ua : ∀ o ∈ out, ∀ x ∈ a.drop p, o.fSeq < x.fSeq
  ub : ∀ o ∈ out, ∀ x ∈ b.drop q, o.fSeq < x.fSeq
  mem : ∀ o, o ∈ out ↔ o ∈ a.take p ∨ o ∈ b.take q
  len : out.length ≤ p + q

theorem mem_take_succ {α : Type} {l : List α} {k : Nat} (hk : k < l.length) (x : α) : x ∈ l.take (k + 1) ↔ x ∈ l.take k ∨ x = l[k] := by
  rw [take_succ_get (List.getElem?_eq_getElem hk), List.mem_append, List.mem_singleton]
theorem mem_drop_cons {α : Type} {l : List α} {k : Nat} (hk : k < l.length) (x : α) : x ∈ l.drop k ↔ x = l[k] ∨ x ∈ l.drop (k + 1) := by
  rw [List.drop_eq_getElem_cons hk, List.mem_cons]

theorem FI.a {a b out : List api_Sample} {p q : Nat} (ha : S a) (h : FI a b p q out) (hp : p < a.length) (hb : ∀ x ∈ b.drop q, a[p].fSeq < x.fSeq) : FI a b (p + 1) q (out ++ [a[p]]) := by
  refine ⟨hp, h.hq, ?_, fun o ho x hx => ?_, fun o ho x hx => ?_, fun o => ?_, by have := h.len; simp; omega⟩
  · unfold S; rw [List.pairwise_append]
    exact ⟨h.asc, List.pairwise_singleton _ _, fun x hx y hy => by rw [List.mem_singleton.1 hy]; exact h.ua x hx _ ((mem_drop_cons hp _).2 (.inl rfl))⟩
  · rcases List.mem_append.1 ho with ho | ho
    · exact h.ua o ho x ((mem_drop_cons hp _).2 (.inr hx))
    · rw [List.mem_singleton.1 ho]; exact ha.above hp hx
  · rcases List.mem_append.1 ho with ho | ho
    · exact h.ub o ho x hx
    · rw [List.mem_singleton.1 ho]; exact hb x hx
  · rw [List.mem_append, h.mem o, mem_take_succ hp, List.mem_singleton]
    constructor
    · rintro ((h | h) | h) <;> simp [h]
    · rintro ((h | h) | h) <;> simp [h]
theorem FI.swap {a b out : List api_Sample} {p q : Nat} (h : FI a b p q out) : FI b a q p out := ⟨h.hq, h.hp, h.asc, h.ub, h.ua, fun o => (h.mem o).trans or_comm, by have := h.len; omega⟩
theorem FI.both {a b out : List api_Sample} {p q : Nat} (ha : S a) (hb : S b) (h : FI a b p q out) (hp : p < a.length) (hq : q < b.length) (e : a[p] = b[q]) : FI a b (p + 1) (q + 1) (out ++ [a[p]]) := by
  refine ⟨hp, hq, ?_, fun o ho x hx => ?_, fun o ho x hx => ?_, fun o => ?_, by have := h.len; simp; omega⟩
  · unfold S; rw [List.pairwise_append]
    exact ⟨h.asc, List.pairwise_singleton _ _, fun x hx y hy => by rw [List.mem_singleton.1 hy]; exact h.ua x hx _ ((mem_drop_cons hp _).2 (.inl rfl))⟩
  · rcases List.mem_append.1 ho with ho | ho
    · exact h.ua o ho x ((mem_drop_cons hp _).2 (.inr hx))
    · rw [List.mem_singleton.1 ho]; exact ha.above hp hx
  · rcases List.mem_append.1 ho with ho | ho
    · exact h.ub o ho x ((mem_drop_cons hq _).2 (.inr hx))
    · rw [List.mem_singleton.1 ho, e]; exact hb.above hq hx
  · rw [List.mem_append, h.mem o, mem_take_succ hp, mem_take_succ hq, List.mem_singleton, ← e]
    constructor
    · rintro ((h | h) | h) <;> simp [h]
    · rintro ((h | h) | (h | h)) <;> simp [h]

theorem ref_merge (a b : List api_Sample) (ha : a.length ≤ 1000000) (hb : b.length ≤ 1000000) : Tot (exchangepointref37_Merge a b) (MergeR a b) := by
  unfold exchangepointref37_Merge
  refine Tot.jn ?_
  refine Tot.bindT (ref_valid a (by omega)) fun r1 h1 => ?_
  have bad : ¬ (VOk a ∧ VOk b) → Tot (some (([] : List api_Sample), (1 : Int))) (MergeR a b) := fun h => Tot.some (.inl ⟨h, rfl⟩)
  refine Tot.ite (fun c1 => ?_) (fun c1 => ?_)
  · refine Tot.ite (fun _ => bad fun h => ?_) (fun c => by cases c)
    rw [h1.2 h.1] at c1; cases c1
  · have va : VOk a := h1.1 (by simpa using c1)
    refine Tot.bindT (ref_valid b (by omega)) fun r2 h2 => ?_
    refine Tot.ite (fun c2 => bad fun h => ?_) (fun c2 => ?_)
    · rw [h2.2 h.2] at c2; cases c2
    have vb : VOk b := h2.1 (by simpa using c2)
    have sa := va.1.S
    have sb := vb.1.S
    have la := va.2
    have lb := vb.2
    refine Tot.bindLoop (fun s : Int × Int × List api_Sample => ∃ p q : Nat, s.1 = p ∧ s.2.1 = q ∧ FI a b p q s.2.2) (fun s => (a.length - s.1.toNat) + (b.length - s.2.1.toNat)) (fun x => match x with | .inl _ => conf a b | .inr m => Mg a b m ∧ m.length ≤ 2000)
      ⟨0, 0, rfl, rfl, Nat.zero_le _, Nat.zero_le _, .nil, fun o ho => (by cases ho), fun o ho => (by cases ho), fun o => by simp, by simp⟩ ?_ ?_
    · rintro ⟨s1, s2, out⟩ ⟨p, q, e1, e2, hI⟩
      have hlen := hI.len
      have hpl := hI.hp
      have hql := hI.hq
      simp only at e1 e2 hI
      subst e1; subst e2
      unfold exchangepointref37_Merge_L0
      simp only
      have wp : w64 ((p : Int) + 1) = ((p + 1 : Nat) : Int) := by rw [w64_id (by omega) (by omega)]; rfl
      have wq : w64 ((q : Int) + 1) = ((q + 1 : Nat) : Int) := by rw [w64_id (by omega) (by omega)]; rfl
      rw [wp, wq]
      have hlim : ∀ x : api_Sample, decide ((out ++ [x]).length ≤ LIM) = true := fun x => by simp [LIM]; simp only at hlen; omega
      refine Tot.ite (fun c => ?_) (fun c => ?_)
      · simp only [Bool.or_eq_true, decide_eq_true_eq] at c
        have dropb : (hq : q < b.length) → ∀ v : Int, v < b[q].fSeq → ∀ x ∈ b.drop q, v < x.fSeq := fun hq v hv x hx => by
          rcases (mem_drop_cons hq x).1 hx with e | hx
          · rw [e]; exact hv
          · have := sb.above hq hx; omega
        have dropa : (hp : p < a.length) → ∀ v : Int, v < a[p].fSeq → ∀ x ∈ a.drop p, v < x.fSeq := fun hp v hv x hx => by
          rcases (mem_drop_cons hp x).1 hx with e | hx
          · rw [e]; exact hv
          · have := sa.above hp hx; omega
        refine Tot.jnR (fun m : Bool => (m = true → ∃ hp : p < a.length, ∀ x ∈ b.drop q, a[p].fSeq < x.fSeq) ∧ (m = false → ∃ hq : q < b.length, ∀ hp : p < a.length, b[q].fSeq ≤ a[p].fSeq)) (fun j hj => ?_) (fun m hm => ?_)
        · refine Tot.ite (fun d1 => ?_) (fun d1 => ?_)
          · have : q = b.length := by simp at d1; omega
            refine hj _ ⟨fun _ => ⟨by omega, fun x hx => ?_⟩, fun e => by cases e⟩
            rw [List.drop_eq_nil_of_le (by omega)] at hx; cases hx
          · have hq : q < b.length := by simp at d1; omega
            refine Tot.ite (fun d2 => ?_) (fun d2 => ?_)
            · have hp : p < a.length := by simpa using d2
              refine Tot.bindIdx p rfl hp (Tot.bindIdx q rfl hq (hj _ ⟨fun d3 => ⟨hp, dropb hq _ (by simpa using d3)⟩, fun d3 => ⟨hq, fun _ => by simp at d3; omega⟩⟩))
            · exact hj _ ⟨fun e => (by cases e), fun _ => ⟨hq, fun hp => by simp at d2; omega⟩⟩
        · refine Tot.ite (fun d => ?_) (fun d => ?_)
          · obtain ⟨hp, hx⟩ := hm.1 d
            exact Tot.bindIdx p rfl hp (Tot.chk (hlim _) (Tot.next ⟨p + 1, q, rfl, rfl, hI.a sa hp hx⟩ (by simp only [Int.toNat_natCast]; omega)))
          · obtain ⟨hq, hle⟩ := hm.2 d
            refine Tot.jnR (fun m : Bool => (m = true → ∀ x ∈ a.drop p, b[q].fSeq < x.fSeq) ∧ (m = false → ∃ hp : p < a.length, a[p].fSeq = b[q].fSeq)) (fun j hj => ?_) (fun m hm => ?_)
            · refine Tot.ite (fun d2 => ?_) (fun d2 => ?_)
              · have : p = a.length := by simp at d2; omega
                refine hj _ ⟨fun _ x hx => ?_, fun e => by cases e⟩
                rw [List.drop_eq_nil_of_le (by omega)] at hx; cases hx
              · have hp : p < a.length := by simp at d2; omega
                exact Tot.bindIdx p rfl hp (Tot.bindIdx q rfl hq (hj _ ⟨fun d3 => dropa hp _ (by simpa using d3), fun d3 => ⟨hp, by have := hle hp; simp at d3; omega⟩⟩))
            · refine Tot.ite (fun d => ?_) (fun d => ?_)
              · exact Tot.bindIdx q rfl hq (Tot.chk (hlim _) (Tot.next ⟨p, q + 1, rfl, rfl, (hI.swap.a sb hq (hm.1 d)).swap⟩ (by simp only [Int.toNat_natCast]; omega)))
              · obtain ⟨hp, heq⟩ := hm.2 d
                refine Tot.bindIdx p rfl hp (Tot.bindIdx q rfl hq ?_)
                refine Tot.ite (fun d4 => ?_) (fun d4 => ?_)
                · refine Tot.out ⟨a[p], List.getElem_mem hp, b[q], List.getElem_mem hq, heq, fun e => ?_⟩
                  rw [Bool.not_eq_true', Bool.eq_false_iff] at d4
                  exact d4 ((beq6 _ _).2 e)
                · have e : a[p] = b[q] := (beq6 _ _).1 (by simpa using d4)
                  exact Tot.bindIdx p rfl hp (Tot.chk (hlim _) (Tot.next ⟨p + 1, q + 1, rfl, rfl, hI.both sa sb hp hq e⟩ (by simp only [Int.toNat_natCast]; omega)))
      · simp only [Bool.or_eq_false_iff, decide_eq_false_iff_not] at c
        obtain rfl : p = a.length := by omega
        obtain rfl : q = b.length := by omega
        refine Tot.out ⟨⟨hI.asc, fun x => ?_⟩, by simp only at hlen; omega⟩
        rw [hI.mem x, List.take_length, List.take_length]
    · intro x hx
      cases x with
      | inl _ => exact Tot.some (.inr (.inl ⟨va, vb, hx, rfl⟩))
      | inr m =>
        obtain ⟨hm, hml⟩ := hx
        have nc : ¬ conf a b := by
          rintro ⟨x, hx, y, hy, e, hne⟩
          exact hne (hm.1.inj ((hm.2 x).2 (.inl hx)) ((hm.2 y).2 (.inr hy)) e)
        refine Tot.ite (fun c => ?_) (fun c => ?_)
        · exact Tot.some (.inr (.inr ⟨va, vb, nc, m, hm, .inl ⟨by simp at c; omega, rfl⟩⟩))
        · have hl : m.length ≤ 1000 := by simp at c; omega
          refine Tot.bindT (ref_valid m (by omega)) fun r3 h3 => ?_
          refine Tot.ite (fun c3 => ?_) (fun c3 => ?_)
          · refine Tot.some (.inr (.inr ⟨va, vb, nc, m, hm, .inr (.inl ⟨hl, fun ho => ?_, rfl⟩)⟩))
            rw [h3.2 ⟨ho, hl⟩] at c3; cases c3
          · exact Tot.some (.inr (.inr ⟨va, vb, nc, m, hm, .inr (.inr ⟨hl, (h3.1 (by simpa using c3)).1, rfl⟩)⟩))
end Go.Proofs.Ytdjdoeengjdmmaa

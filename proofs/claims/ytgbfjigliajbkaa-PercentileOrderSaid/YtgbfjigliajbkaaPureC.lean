/- Chapter 40, third part: the laws of parts, rates, merges and order. -/
import Derived.Test.YtgbfjigliajbkaaPureB
namespace Go.Proofs.Ytgbfjigliajbkaa
open Go Go.Vc

-- series that are dealt

theorem pr_snoc {l m : List Int} (hl : l.length = m.length) (h : ∀ i (h : i < l.length) (h' : i < m.length), pr l[i] m[i]) {x y : Int} (hp : pr x y) : ∀ i (h : i < (l ++ [x]).length) (h' : i < (m ++ [y]).length), pr (l ++ [x])[i] (m ++ [y])[i] := fun i h1 h2 => by
  by_cases hi : i < l.length
  · rw [List.getElem_append_left hi, List.getElem_append_left (by omega)]
    exact h i hi (by omega)
  · have : i = l.length := by simp at h1; omega
    subst this
    rw [List.getElem_append_right (Nat.le_refl _), List.getElem_append_right (by omega)]
    simpa using hp
theorem series_tot (d : exchangepointmill_Deck) (hd : DeckOk d) : Tot (exchangepointmill_Deck_Series d 7) (fun x => VOk x.1 ∧ x.1.fIn.length ≤ 29 ∧ DeckOk x.2) := by
  unfold exchangepointmill_Deck_Series
  refine Tot.bindT (next_tot d hd 3 (by omega) (by omega)) ?_
  rintro ⟨r1, d⟩ ⟨a1, b1, hd⟩
  simp only at a1 b1 hd ⊢
  have hsec : ∃ x, idx ([(300 : Int), (1 : Int), (60 : Int)] : List Int) r1 = some x ∧ 1 ≤ x ∧ x ≤ 86400 := by
    have : r1 = 0 ∨ r1 = 1 ∨ r1 = 2 := by omega
    rcases this with rfl | rfl | rfl
    · exact ⟨300, rfl, by omega, by omega⟩
    · exact ⟨1, rfl, by omega, by omega⟩
    · exact ⟨60, rfl, by omega, by omega⟩
  obtain ⟨sec, es, s1, s2⟩ := hsec
  refine Tot.bindOf es (Tot.bindT (next_tot d hd 3 (by omega) (by omega)) ?_)
  rintro ⟨r3, d⟩ ⟨a3, b3, hd⟩
  simp only at a3 b3 hd ⊢
  have hm : ∃ x, idx ([(1048576 : Int), (17179869184 : Int), (1125899906842625 : Int)] : List Int) r3 = some x ∧ 1 ≤ x ∧ x ≤ 1125899906842625 := by
    have : r3 = 0 ∨ r3 = 1 ∨ r3 = 2 := by omega
    rcases this with rfl | rfl | rfl
    · exact ⟨1048576, rfl, by omega, by omega⟩
    · exact ⟨17179869184, rfl, by omega, by omega⟩
    · exact ⟨1125899906842625, rfl, by omega, by omega⟩
  obtain ⟨mm, em, m1, m2⟩ := hm
  refine Tot.bindOf em (Tot.bindT (next_tot d hd 30 (by omega) (by omega)) ?_)
  rintro ⟨k0, d⟩ ⟨a5, b5, hd⟩
  simp only at a5 b5 hd ⊢
  refine Tot.bindLoop (fun s : Int × List Int × List Int × exchangepointmill_Deck => 0 ≤ s.1 ∧ s.1 + s.2.2.1.length ≤ 29 ∧ s.2.2.1.length = s.2.1.length ∧ DeckOk s.2.2.2 ∧ ∀ i (h : i < s.2.2.1.length) (h' : i < s.2.1.length), pr s.2.2.1[i] s.2.1[i]) (fun s => s.1.toNat)
    (fun x => x.2.2.length ≤ 29 ∧ x.2.2.length = x.2.1.length ∧ DeckOk x.1 ∧ ∀ i (h : i < x.2.2.length) (h' : i < x.2.1.length), pr x.2.2[i] x.2.1[i]) ⟨a5, by simp; omega, rfl, hd, fun i h => by simp at h⟩ ?_ ?_
  · rintro ⟨k, lo, li, d⟩ ⟨h1, h2, h3, hd, hp⟩
    simp only at h1 h2 h3 hd hp
    unfold exchangepointmill_Deck_Series_L0
    simp only
    refine Tot.ite (fun c => ?_) (fun c => ?_)
    · have hk : 0 < k := by simpa using c
      refine Tot.bindT (next_tot d hd mm (by omega) (by omega)) ?_
      rintro ⟨x, d⟩ ⟨x1, x2, hd⟩
      refine Tot.bindT (next_tot d hd mm (by omega) (by omega)) ?_
      rintro ⟨y, d⟩ ⟨y1, y2, hd⟩
      refine Tot.bindT (next_tot d hd 6 (by omega) (by omega)) ?_
      rintro ⟨z, d⟩ ⟨z1, z2, hd⟩
      simp only at x1 x2 y1 y2 z1 z2 hd ⊢
      refine Tot.jnR (fun m : Int × Int => pr m.1 m.2) (fun j hj => ?_) (fun m hm => ?_)
      · refine Tot.ite (fun _ => hj _ ?_) (fun _ => hj _ ?_)
        · unfold pr bin; simp
        · unfold pr bin; simp only; omega
      · refine Tot.chk (by simp [LIM]; omega) (Tot.chk (by simp [LIM]; omega) (Tot.next ⟨by simp only; rw [w64_id (by omega) (by omega)]; omega, by simp only [List.length_append, List.length_cons, List.length_nil]; rw [w64_id (by omega) (by omega)]; omega, by simp; omega, hd, pr_snoc h3 hp hm⟩ (by simp only; rw [w64_id (by omega) (by omega)]; omega)))
    · exact Tot.out ⟨by simp only; omega, h3, hd, hp⟩
  · rintro ⟨d, lo, li⟩ ⟨h1, h2, hd, hp⟩
    exact Tot.some ⟨⟨by simp only; omega, ⟨s1, s2⟩, h2, by simp only at h1 ⊢; omega, hp⟩, h1, hd⟩

-- parts

def PP (s : api_Series) (a b : List Int × List Int) (t : Nat) : Prop :=
  ((a.1[t]? = s.fIn[t]? ∧ a.2[t]? = s.fOut[t]?) ∧ (b.1[t]? = s.fIn[t]? ∧ b.2[t]? = s.fOut[t]?)) ∨ ((a.1[t]? = some (-1) ∧ a.2[t]? = some (-1)) ∧ (b.1[t]? = s.fIn[t]? ∧ b.2[t]? = s.fOut[t]?)) ∨
  ((a.1[t]? = s.fIn[t]? ∧ a.2[t]? = s.fOut[t]?) ∧ (b.1[t]? = some (-1) ∧ b.2[t]? = some (-1)))
theorem PP.swap {s : api_Series} {a b : List Int × List Int} {t : Nat} (h : PP s a b t) : PP s b a t := by
  rcases h with ⟨h1, h2⟩ | ⟨h1, h2⟩ | ⟨h1, h2⟩
  · exact .inl ⟨h2, h1⟩
  · exact .inr (.inr ⟨h2, h1⟩)
  · exact .inr (.inl ⟨h2, h1⟩)
theorem PP.valid {s : api_Series} (v : VOk s) {a b : List Int × List Int} (l1 : a.1.length = s.fIn.length) (l2 : a.2.length = s.fOut.length) (h : ∀ t, t < s.fIn.length → PP s a b t) : VOk ⟨s.fPort, s.fSeconds, a.1, a.2⟩ := by
  refine ⟨v.port, v.sec, by simp only; rw [l1, l2]; exact v.len, by simp only; rw [l1]; exact v.most, fun i h1 h2 => ?_⟩
  simp only at h1 h2 ⊢
  have k1 : i < s.fIn.length := by omega
  have k2 : i < s.fOut.length := by omega
  have hp := h i k1
  unfold PP at hp
  rw [List.getElem?_eq_getElem h1, List.getElem?_eq_getElem h2, List.getElem?_eq_getElem k1, List.getElem?_eq_getElem k2] at hp
  simp only [Option.some.injEq] at hp
  have ho := v.all i k1 k2
  rcases hp with ⟨⟨e1, e2⟩, _⟩ | ⟨⟨e1, e2⟩, _⟩ | ⟨⟨e1, e2⟩, _⟩
  · rw [e1, e2]; exact ho
  · rw [e1, e2]; unfold pr bin; simp
  · rw [e1, e2]; exact ho
theorem PP.merge {s : api_Series} (v : VOk s) {a b : List Int × List Int} (la1 : a.1.length = s.fIn.length) (la2 : a.2.length = s.fOut.length) (lb1 : b.1.length = s.fIn.length) (lb2 : b.2.length = s.fOut.length) (h : ∀ t, t < s.fIn.length → PP s a b t)
    {r : api_Series × Int} (hr : MergeR ⟨s.fPort, s.fSeconds, a.1, a.2⟩ ⟨s.fPort, s.fSeconds, b.1, b.2⟩ r) : r = (s, 0) := by
  have va := PP.valid v la1 la2 h
  have vb := PP.valid v lb1 lb2 (fun t ht => (h t ht).swap)
  have el := v.len
  refine hr.det (.inr (.inr (.inr ⟨va, vb, ?_, ?_, s.fIn, s.fOut, fun t => ?_, fun t => ?_, rfl⟩)))
  · rintro (h | h | h)
    · exact h rfl
    · exact h rfl
    · simp only at h; omega
  · rintro ⟨i, h1, h2, h3, h4, hb, ha, hne⟩
    simp only at h1 h2 h3 h4 hb ha hne
    have k1 : i < s.fIn.length := by omega
    have k2 : i < s.fOut.length := by omega
    have hp := h i k1
    unfold PP at hp
    rw [List.getElem?_eq_getElem h1, List.getElem?_eq_getElem h2, List.getElem?_eq_getElem h3, List.getElem?_eq_getElem h4, List.getElem?_eq_getElem k1, List.getElem?_eq_getElem k2] at hp
    simp only [Option.some.injEq] at hp
    rcases hp with ⟨⟨e1, e2⟩, e3, e4⟩ | ⟨⟨e1, e2⟩, _⟩ | ⟨_, e3, e4⟩
    · rw [e1, e2, e3, e4] at hne; simp at hne
    · exact ha e1
    · exact hb e3
  · unfold sel
    simp only
    by_cases ht : t < s.fIn.length
    · rcases h t ht with ⟨⟨e1, e2⟩, e3, e4⟩ | ⟨⟨e1, e2⟩, e3, e4⟩ | ⟨⟨e1, e2⟩, e3, e4⟩
      · rw [e1, e3]; split <;> rfl
      · rw [e1, e3]
        by_cases hs : s.fIn[t]? = some (-1)
        · rw [if_neg (fun h => h.2 hs), hs]
        · rw [if_pos ⟨rfl, hs⟩]
      · rw [e1, e3, if_neg (fun h => h.2 rfl)]
    · rw [List.getElem?_eq_none (by omega), List.getElem?_eq_none (by omega), if_neg (by rintro ⟨h, _⟩; cases h)]
  · unfold sel
    simp only
    by_cases ht : t < s.fIn.length
    · rcases h t ht with ⟨⟨e1, e2⟩, e3, e4⟩ | ⟨⟨e1, e2⟩, e3, e4⟩ | ⟨⟨e1, e2⟩, e3, e4⟩
      · rw [e2, e4]; split <;> rfl
      · rw [e1, e2, e3, e4]
        by_cases hs : s.fIn[t]? = some (-1)
        · rw [if_neg (fun h => h.2 hs)]
          have ht' : t < s.fOut.length := by omega
          have := (v.all t ht ht').2.2.1 (by rw [List.getElem?_eq_getElem ht] at hs; exact Option.some.inj hs)
          rw [List.getElem?_eq_getElem ht', this]
        · rw [if_pos ⟨rfl, hs⟩]
      · rw [e2, e3, if_neg (fun h => h.2 rfl)]
    · rw [List.getElem?_eq_none (l := s.fOut) (by omega), List.getElem?_eq_none (l := a.2) (by omega), List.getElem?_eq_none (l := b.2) (by omega)]
      split <;> rfl

/-- state of the loop that marks -/
def PI (s : api_Series) (k : Nat) (a b : List Int × List Int) : Prop :=
  a.1.length = s.fIn.length ∧ a.2.length = s.fOut.length ∧ b.1.length = s.fIn.length ∧ b.2.length = s.fOut.length ∧ (∀ t, t < s.fIn.length → PP s a b t) ∧ ∀ t, k ≤ t → (a.1[t]? = s.fIn[t]? ∧ a.2[t]? = s.fOut[t]?) ∧ (b.1[t]? = s.fIn[t]? ∧ b.2[t]? = s.fOut[t]?)
theorem PI.zero (s : api_Series) : PI s 0 (s.fIn, s.fOut) (s.fIn, s.fOut) := ⟨rfl, rfl, rfl, rfl, fun _ _ => .inl ⟨⟨rfl, rfl⟩, rfl, rfl⟩, fun _ _ => ⟨⟨rfl, rfl⟩, rfl, rfl⟩⟩
theorem PI.same {s : api_Series} {k : Nat} {a b : List Int × List Int} (h : PI s k a b) : PI s (k + 1) a b := ⟨h.1, h.2.1, h.2.2.1, h.2.2.2.1, h.2.2.2.2.1, fun t ht => h.2.2.2.2.2 t (by omega)⟩
theorem PI.swap {s : api_Series} {k : Nat} {a b : List Int × List Int} (h : PI s k a b) : PI s k b a := ⟨h.2.2.1, h.2.2.2.1, h.1, h.2.1, fun t ht => (h.2.2.2.2.1 t ht).swap, fun t ht => ⟨(h.2.2.2.2.2 t ht).2, (h.2.2.2.2.2 t ht).1⟩⟩
theorem PI.mark {s : api_Series} (v : VOk s) {k : Nat} {a b : List Int × List Int} (h : PI s k a b) (hk : k < s.fIn.length) : PI s (k + 1) (a.1.set k (-1), a.2.set k (-1)) b := by
  obtain ⟨h1, h2, h3, h4, h5, h6⟩ := h
  have el := v.len
  refine ⟨by simpa using h1, by simpa using h2, h3, h4, fun t ht => ?_, fun t ht => ?_⟩
  · by_cases e : t = k
    · subst e
      have := h6 t (Nat.le_refl _)
      refine .inr (.inl ⟨⟨?_, ?_⟩, this.2⟩)
      · exact List.getElem?_set_self (by omega)
      · exact List.getElem?_set_self (by omega)
    · have := h5 t ht
      unfold PP at this ⊢
      simp only
      rw [List.getElem?_set_ne (Ne.symm e), List.getElem?_set_ne (Ne.symm e)]
      exact this
  · simp only
    rw [List.getElem?_set_ne (by omega), List.getElem?_set_ne (by omega)]
    exact h6 t (by omega)

theorem parts_loop (s : api_Series) (v : VOk s) (d : exchangepointmill_Deck) (a1 : Int) : Tot (loop (exchangepointlaw40_PercentileParts_L0 a1 (s, d)) ((0 : Int), s.fOut, s.fIn, s.fOut, s.fIn)) (fun x => PI s s.fIn.length (x.2.2.2, x.2.2.1) (x.2.1, x.1)) := by
  have el := v.len; have em := v.most
  refine Tot.loop (fun st : Int × List Int × List Int × List Int × List Int => ∃ k : Nat, st.1 = k ∧ k ≤ s.fIn.length ∧ PI s k (st.2.2.2.2, st.2.2.2.1) (st.2.2.1, st.2.1)) (fun st => s.fIn.length - st.1.toNat) _ ?_ ⟨0, rfl, Nat.zero_le _, PI.zero s⟩
  rintro ⟨s1, bo, bi, ao, ai⟩ ⟨k, e, hk, hI⟩
  simp only at e hI
  subst e
  unfold exchangepointlaw40_PercentileParts_L0
  simp only
  refine Tot.ite (fun h => ?_) (fun h => ?_)
  · have hlt : k < s.fIn.length := by simpa using h
    have hw := cast_succ_w hlt (by omega)
    obtain ⟨l1, l2, l3, l4, _⟩ := id hI
    simp only at l1 l2 l3 l4
    refine Tot.jnR (fun m : List Int × List Int × List Int × List Int => PI s (k + 1) (m.2.2.2, m.2.2.1) (m.2.1, m.1)) (fun j hj => ?_) (fun m hm => Tot.next ⟨k + 1, hw, hlt, hm⟩ (by simp only [hw, Int.toNat_natCast]; omega))
    refine Tot.ite (fun _ => ?_) (fun _ => Tot.ite (fun _ => ?_) (fun _ => hj _ hI.same))
    · refine Tot.bindIdx k rfl (by omega) (Tot.bindIdx k rfl (by omega) (Tot.bindIdx k rfl (by omega) (Tot.bindIdx k rfl (by omega) (hj _ ?_))))
      exact hI.mark v hlt
    · refine Tot.bindIdx k rfl (by omega) (Tot.bindIdx k rfl (by omega) (Tot.bindIdx k rfl (by omega) (Tot.bindIdx k rfl (by omega) (hj _ ?_))))
      exact (hI.swap.mark v hlt).swap
  · have : k = s.fIn.length := by simp at h; omega
    subst this
    exact Tot.out hI

theorem parts_eq (a0 : List Int) (h0 : (∀ y ∈ a0, I64 y) ∧ a0.length ≤ maxLen) (a1 : Int) {p1 : Prop} (_ : p1) : exchangepointlaw40_PercentileParts a0 a1 = some true := by
  refine Tot.eq ?_
  unfold exchangepointlaw40_PercentileParts exchangepointmill_New
  refine Tot.bind (Tot.some ?_)
  refine Tot.bindT (series_tot _ (new_ok a0 h0.2)) ?_
  rintro ⟨s, d⟩ ⟨v, hl, _⟩
  simp only at v hl ⊢
  have el := v.len
  refine Tot.bindOf (copy_eq3 (by omega) (by omega)) (Tot.bindOf (copy_eq3 (by omega) (by omega)) (Tot.bindT (parts_loop s v d a1) ?_))
  rintro ⟨bo, bi, ao, ai⟩ hI
  obtain ⟨l1, l2, l3, l4, hp, _⟩ := hI
  simp only at l1 l2 l3 l4 hp ⊢
  refine Tot.bindT (merge_eq ⟨s.fPort, s.fSeconds, ai, ao⟩ ⟨s.fPort, s.fSeconds, bi, bo⟩ (by simp only; omega) (by simp only; omega)) fun r1 h1 => ?_
  refine Tot.bindT (merge_eq ⟨s.fPort, s.fSeconds, bi, bo⟩ ⟨s.fPort, s.fSeconds, ai, ao⟩ (by simp only; omega) (by simp only; omega)) fun r2 h2 => ?_
  obtain rfl := PP.merge v l1 l2 l3 l4 hp h1
  obtain rfl := PP.merge v l3 l4 l1 l2 (fun t ht => (hp t ht).swap) h2
  have same := same_self s (by omega) (by omega)
  refine Tot.jn (Tot.ite (fun _ => ?_) (fun c => by simp at c))
  refine Tot.bindOf same (Tot.ite (fun _ => ?_) (fun c => by cases c))
  refine Tot.bindOf same (Tot.ite (fun _ => ?_) (fun c => by cases c))
  exact Tot.bindOf awake_eq (Tot.some rfl)

-- rates

/-- a loop over a short list that is never left early -/
theorem rates_law (a0 : api_Series) {p0 : Prop} (_ : p0) (a1 : List Int) {p1 : Prop} (_ : p1) (a2 : Int) {p2 : Prop} (_ : p2) (a3 : Int) {p3 : Prop} (_ : p3) (a4 : Int) {p4 : Prop} (_ : p4) (a5 : List Int) (h5 : (∀ y ∈ a5, I64 y) ∧ a5.length ≤ maxLen) :
    exchangepointlaw40_PercentileRates a0 a1 a2 a3 a4 a5 = some true := by
  refine Tot.eq ?_
  unfold exchangepointlaw40_PercentileRates exchangepointmill_New
  refine Tot.ite (fun _ => Tot.bindOf awake_eq (Tot.some rfl)) (fun c => ?_)
  have hraw : a0.fIn.length ≤ 300 ∧ a0.fOut.length ≤ 300 ∧ a1.length ≤ 300 := by simp at c; omega
  refine Tot.bind (Tot.some ?_)
  refine Tot.bindT (series_tot _ (new_ok a5 h5.2)) ?_
  rintro ⟨s, d⟩ ⟨v, hl, _⟩
  simp only at v hl ⊢
  have el := v.len
  refine Tot.bindOf (copy_eq3 (by omega) (by omega)) (Tot.bindOf (mod_eq a4 4 (by omega) (by omega)) ?_)
  refine Tot.jnR (fun m : Int × List Int × List Int => m.2.2.length ≤ 29) (fun j hj => ?_) (fun m hm => ?_)
  · refine Tot.ite (fun _ => Tot.chk (by simp [LIM]; omega) (hj _ hl)) (fun _ => Tot.ite (fun _ => ?_) (fun _ => Tot.ite (fun _ => ?_) (fun _ => hj _ hl)))
    · refine Tot.ite (fun c => ?_) (fun _ => hj _ hl)
      have hpos : 0 < s.fIn.length := by simp at c; omega
      have hb := emod_lt' a2 (show (0 : Int) < (s.fIn.length : Int) by omega)
      refine Tot.bindOf (mod_eq a2 _ (by omega) (by omega)) (Tot.bindOf (mod_eq a3 3 (by omega) (by omega)) ?_)
      refine Tot.bindIdx (a2 % (s.fIn.length : Int)).toNat (by omega) (by omega) (Tot.bindIdx (a2 % (s.fIn.length : Int)).toNat (by omega) (by omega) (hj _ ?_))
      simpa using hl
    · exact Tot.bindOf (mod_eq a3 3 (by omega) (by omega)) (hj _ hl)
  · generalize hLL : ([a0, s, (api_Series.mk s.fPort m.1 m.2.2 m.2.1)] : List api_Series) = LL
    have hall : ∀ x ∈ LL, x.fIn.length ≤ 300 := by
      rw [← hLL]
      intro x hx
      simp only [List.mem_cons, List.not_mem_nil, or_false] at hx
      rcases hx with rfl | rfl | rfl
      · omega
      · omega
      · simp only; omega
    have hLn : LL.length = 3 := by rw [← hLL]; rfl
    refine Tot.bindLoop (fun st : Int => ∃ k : Nat, st = k ∧ k ≤ 3) (fun st => 3 - st.toNat) (fun x => x = .inr ()) ⟨0, rfl, Nat.zero_le _⟩ ?_ (fun x hx => ?_)
    · rintro st ⟨k, rfl, hk⟩
      unfold exchangepointlaw40_PercentileRates_L0
      simp only [hLL]
      refine Tot.ite (fun h => ?_) (fun h => Tot.out rfl)
      have hlt : k < LL.length := by simpa using h
      have hw := cast_succ_w hlt (by omega)
      refine Tot.bindIdx k rfl hlt ?_
      have hx := hall _ (List.getElem_mem hlt)
      generalize LL[k] = x at hx
      obtain ⟨v1, ev1, hv1⟩ := valid_eq x (by omega)
      obtain ⟨v2, ev2, hv2⟩ := valid_ref x (by omega)
      have hv : v1 = v2 := Bool.eq_iff_iff.2 (hv1.trans hv2.symm)
      refine Tot.bindOf ev1 (Tot.bindOf ev2 (Tot.ite (fun e => by simp [hv] at e) (fun _ => ?_)))
      refine Tot.bindOf (mod_eq a4 100 (by omega) (by omega)) (Tot.bindOf (used_eq x (by omega) _) (Tot.bindOf (mod_eq a4 100 (by omega) (by omega)) (Tot.bindOf (used_ref x (by omega) _) ?_)))
      exact Tot.ite (fun e => by simp at e) (fun _ => Tot.next ⟨k + 1, hw, by omega⟩ (by simp only [hw, Int.toNat_natCast]; omega))
    · subst hx
      refine Tot.bindOf (mod_eq a2 _ (by omega) (by omega)) (Tot.bindOf (mod_eq a3 _ (by omega) (by omega)) (Tot.bindOf (mod_eq a2 _ (by omega) (by omega)) ?_))
      refine Tot.bindLoop (fun st : Int => ∃ k : Nat, st = k ∧ k ≤ 3) (fun st => 3 - st.toNat) (fun x => x = .inr ()) ⟨0, rfl, Nat.zero_le _⟩ ?_ (fun x hx => ?_)
      · rintro st ⟨k, rfl, hk⟩
        unfold exchangepointlaw40_PercentileRates_L1
        generalize hL2 : ([([a2, a3] : List Int), ([a2 % 1125899906842626, (w64 ((1 : Int) + a3 % 86400))] : List Int), ([(w64 (a2 % 100 * (37500000 : Int))), (300 : Int)] : List Int)] : List (List Int)) = L2
        have hall2 : ∀ x ∈ L2, x.length = 2 := by
          rw [← hL2]
          intro x hx
          simp only [List.mem_cons, List.not_mem_nil, or_false] at hx
          rcases hx with rfl | rfl | rfl <;> rfl
        have hL2n : L2.length = 3 := by rw [← hL2]; rfl
        refine Tot.ite (fun h => ?_) (fun h => Tot.out rfl)
        have hlt : k < L2.length := by simpa using h
        have hw := cast_succ_w hlt (by omega)
        refine Tot.bindIdx k rfl hlt ?_
        have hx := hall2 _ (List.getElem_mem hlt)
        generalize L2[k] = x at hx
        refine Tot.bindIdx 0 rfl (by omega) (Tot.bindIdx 1 rfl (by omega) (Tot.bindOf (rate_eq _ _) ?_))
        refine Tot.bindIdx 0 rfl (by omega) (Tot.bindIdx 1 rfl (by omega) (Tot.bindOf (rate_ref _ _) ?_))
        exact Tot.ite (fun e => by simp at e) (fun _ => Tot.next ⟨k + 1, hw, by omega⟩ (by simp only [hw, Int.toNat_natCast]; omega))
      · subst hx
        refine Tot.bindLoop (fun st : Int => ∃ k : Nat, st = k ∧ k ≤ 3) (fun st => 3 - st.toNat) (fun x => x = .inr ()) ⟨0, rfl, Nat.zero_le _⟩ ?_ (fun x hx => by subst hx; exact Tot.bindOf awake_eq (Tot.some rfl))
        rintro st ⟨k, rfl, hk⟩
        unfold exchangepointlaw40_PercentileRates_L2
        generalize hL2 : ([a1, s.fIn, s.fOut] : List (List Int)) = L2
        have hall2 : ∀ x ∈ L2, x.length ≤ 300 := by
          rw [← hL2]
          intro x hx
          simp only [List.mem_cons, List.not_mem_nil, or_false] at hx
          rcases hx with rfl | rfl | rfl <;> omega
        have hL2n : L2.length = 3 := by rw [← hL2]; rfl
        refine Tot.ite (fun h => ?_) (fun h => Tot.out rfl)
        have hlt : k < L2.length := by simpa using h
        have hw := cast_succ_w hlt (by omega)
        refine Tot.bindIdx k rfl hlt ?_
        have hx := hall2 _ (List.getElem_mem hlt)
        generalize L2[k] = x at hx
        refine Tot.bindOf (rates_eq x (by omega) _) (Tot.bindOf (rates_ref x (by omega) _) (Tot.bindOf (rates_eq x (by omega) _) (Tot.bindOf (rates_ref x (by omega) _) ?_)))
        have q1 := ratesF_len x 300
        have q2 := ratesF_len x a3
        refine Tot.jnR (fun m : Bool => m = false) (fun j hj => ?_) (fun m hm => ?_)
        · refine Tot.ite (fun e => by simp at e) (fun _ => Tot.bindOf (same_ints _ (by omega)) (Tot.ite (fun e => by simp at e) (fun _ => Tot.bindOf (same_ints _ (by omega)) (hj _ rfl))))
        · subst hm
          refine Tot.ite (fun e => by cases e) (fun _ => Tot.bindOf (mod_eq a4 103 (by omega) (by omega)) ?_)
          refine Tot.bindLoop (fun st : Int => ∃ k : Nat, st = k ∧ k ≤ 3) (fun st => 3 - st.toNat) (fun x => x = .inr ()) ⟨0, rfl, Nat.zero_le _⟩ ?_ (fun y hy => by subst hy; exact Tot.next ⟨k + 1, hw, by omega⟩ (by simp only [hw, Int.toNat_natCast]; omega))
          rintro st ⟨k, rfl, hk⟩
          unfold exchangepointlaw40_PercentileRates_L3
          generalize hL3 : ([a4, (w64 (a4 % 103 - (1 : Int))), (95 : Int)] : List Int) = L3
          have hL3n : L3.length = 3 := by rw [← hL3]; rfl
          refine Tot.ite (fun h => ?_) (fun h => Tot.out rfl)
          have hlt : k < L3.length := by simpa using h
          have hw := cast_succ_w hlt (by omega)
          refine Tot.bindIdx k rfl hlt (Tot.bindOf (pct_eq x (by omega) _) (Tot.bindOf (pct_ref x (by omega) _) ?_))
          exact Tot.ite (fun e => by simp at e) (fun _ => Tot.next ⟨k + 1, hw, by omega⟩ (by simp only [hw, Int.toNat_natCast]; omega))

-- merges

theorem merges_law (a0 : api_Series) {p0 : Prop} (_ : p0) (a1 : List Int) (h1 : (∀ y ∈ a1, I64 y) ∧ a1.length ≤ maxLen) (a2 : Int) {p2 : Prop} (_ : p2) (a3 : Int) {p3 : Prop} (_ : p3) (a4 : Int) {p4 : Prop} (_ : p4) (a5 : Int) {p5 : Prop} (_ : p5) :
    exchangepointlaw40_PercentileMerges a0 a1 a2 a3 a4 a5 = some true := by
  refine Tot.eq ?_
  unfold exchangepointlaw40_PercentileMerges exchangepointmill_New
  refine Tot.ite (fun _ => Tot.bindOf awake_eq (Tot.some rfl)) (fun c => ?_)
  have hraw : a0.fIn.length ≤ 300 ∧ a0.fOut.length ≤ 300 := by simp at c; omega
  refine Tot.bind (Tot.some ?_)
  refine Tot.bindT (series_tot _ (new_ok a1 h1.2)) ?_
  rintro ⟨s, d⟩ ⟨v, hl, _⟩
  simp only at v hl ⊢
  have el := v.len
  refine Tot.bindOf (copy_eq3 (by omega) (by omega)) (Tot.bindOf (copy_eq3 (by omega) (by omega)) (Tot.bindT (parts_loop s v d a2) ?_))
  rintro ⟨bo, bi, ao, ai⟩ hI
  obtain ⟨l1, l2, l3, l4, _, _⟩ := hI
  simp only at l1 l2 l3 l4 ⊢
  refine Tot.bindOf (copy_eq2 (by simp only; omega) (by simp only; omega)) ?_
  simp only
  refine Tot.jnR (fun m : Bool => m = true → 0 < bi.length) (fun j hj => ?_) (fun m hm => ?_)
  · refine Tot.ite (fun c => ?_) (fun _ => hj _ (fun e => by cases e))
    have hpos : 0 < bi.length := by simp at c; omega
    exact Tot.bindIdx 0 rfl hpos (Tot.bindIdx 0 rfl hpos (hj _ fun _ => hpos))
  · refine Tot.jnR (fun m : List Int => m.length ≤ 29) (fun j hj => ?_) (fun m hm => ?_)
    · refine Tot.ite (fun c => ?_) (fun _ => hj _ (by omega))
      have hpos := hm c
      exact Tot.bindIdx 0 rfl hpos (Tot.bindIdx 0 rfl hpos (Tot.bindIdx 0 rfl hpos (Tot.bindIdx 0 rfl hpos (hj _ (by simp; omega)))))
    · generalize hLL : ([(api_Series.mk s.fPort s.fSeconds ai ao), (api_Series.mk s.fPort s.fSeconds bi bo), (api_Series.mk s.fPort s.fSeconds m bo), a0] : List api_Series) = LL
      have hall : ∀ x ∈ LL, x.fIn.length ≤ 300 := by
        rw [← hLL]
        intro x hx
        simp only [List.mem_cons, List.not_mem_nil, or_false] at hx
        rcases hx with rfl | rfl | rfl | rfl
        · simp only; omega
        · simp only; omega
        · simp only; omega
        · omega
      have hLn : LL.length = 4 := by rw [← hLL]; rfl
      refine Tot.bindLoop (fun st : Int => ∃ k : Nat, st = k ∧ k ≤ 4) (fun st => 4 - st.toNat) (fun x => x = .inr ()) ⟨0, rfl, Nat.zero_le _⟩ ?_ (fun x hx => by subst hx; exact Tot.bindOf awake_eq (Tot.some rfl))
      rintro st ⟨k, rfl, hk⟩
      unfold exchangepointlaw40_PercentileMerges_L1
      simp only [hLL]
      refine Tot.ite (fun h => ?_) (fun h => Tot.out rfl)
      have hlt : k < LL.length := by simpa using h
      have hw := cast_succ_w hlt (by omega)
      refine Tot.bindIdx k rfl hlt ?_
      have hx := hall _ (List.getElem_mem hlt)
      generalize LL[k] = x at hx
      refine Tot.bindLoop (fun st : Int => ∃ k : Nat, st = k ∧ k ≤ 3) (fun st => 3 - st.toNat) (fun x => x = .inr ()) ⟨0, rfl, Nat.zero_le _⟩ ?_ (fun y hy => ?_)
      · rintro st ⟨k, rfl, hk⟩
        unfold exchangepointlaw40_PercentileMerges_L2
        generalize hL2 : ([(api_Series.mk s.fPort s.fSeconds ai ao), (api_Series.mk s.fPort s.fSeconds bi bo), a0] : List api_Series) = L2
        have hall2 : ∀ x ∈ L2, x.fIn.length ≤ 300 := by
          rw [← hL2]
          intro x hx
          simp only [List.mem_cons, List.not_mem_nil, or_false] at hx
          rcases hx with rfl | rfl | rfl
          · simp only; omega
          · simp only; omega
          · omega
        have hL2n : L2.length = 3 := by rw [← hL2]; rfl
        refine Tot.ite (fun h => ?_) (fun h => Tot.out rfl)
        have hlt : k < L2.length := by simpa using h
        have hw := cast_succ_w hlt (by omega)
        refine Tot.bindIdx k rfl hlt ?_
        have hz := hall2 _ (List.getElem_mem hlt)
        generalize L2[k] = z at hz
        obtain ⟨r1, er1, hr1⟩ := merge_eq x z (by omega) (by omega)
        obtain ⟨r2, er2, hr2⟩ := merge_ref x z (by omega) (by omega)
        obtain rfl := hr1.det hr2
        have hs := hr1.small
        refine Tot.bindOf er1 (Tot.bindOf er2 (Tot.jnR (fun m : Bool => m = false) (fun j hj => ?_) (fun m hm => ?_)))
        · exact Tot.ite (fun e => by simp at e) (fun _ => Tot.bindOf (same_self _ (by omega) (by omega)) (hj _ rfl))
        · subst hm
          exact Tot.ite (fun e => by cases e) (fun _ => Tot.next ⟨k + 1, hw, by omega⟩ (by simp only [hw, Int.toNat_natCast]; omega))
      · subst hy
        have e3 : w64 ((x.fIn.length : Int) + 3) = (x.fIn.length : Int) + 3 := w64_id (by omega) (by omega)
        rw [e3]
        refine Tot.bindOf (mod_eq a3 _ (by omega) (by omega)) (Tot.bindOf (mod_eq a4 9 (by omega) (by omega)) (Tot.bindOf (mod_eq a5 9 (by omega) (by omega)) ?_))
        refine Tot.bindLoop (fun st : Int => ∃ k : Nat, st = k ∧ k ≤ 3) (fun st => 3 - st.toNat) (fun x => x = .inr ()) ⟨0, rfl, Nat.zero_le _⟩ ?_ (fun y hy => by subst hy; exact Tot.next ⟨k + 1, hw, by omega⟩ (by simp only [hw, Int.toNat_natCast]; omega))
        rintro st ⟨k, rfl, hk⟩
        unfold exchangepointlaw40_PercentileMerges_L3
        generalize hL2 : ([([a3, a4, a5] : List Int), ([(w64 (a3 % ((x.fIn.length : Int) + 3) - (1 : Int))), (w64 (a4 % 9 - (2 : Int))), (w64 (a5 % 9 - (2 : Int)))] : List Int), ([(x.fIn.length : Int), (-1 : Int), (-1 : Int)] : List Int)] : List (List Int)) = L2
        have hall2 : ∀ x ∈ L2, x.length = 3 := by
          rw [← hL2]
          intro x hx
          simp only [List.mem_cons, List.not_mem_nil, or_false] at hx
          rcases hx with rfl | rfl | rfl <;> rfl
        have hL2n : L2.length = 3 := by rw [← hL2]; rfl
        refine Tot.ite (fun h => ?_) (fun h => Tot.out rfl)
        have hlt : k < L2.length := by simpa using h
        have hw := cast_succ_w hlt (by omega)
        refine Tot.bindIdx k rfl hlt ?_
        have hz := hall2 _ (List.getElem_mem hlt)
        generalize L2[k] = z at hz
        refine Tot.bindIdx 0 rfl (by omega) (Tot.bindIdx 1 rfl (by omega) (Tot.bindIdx 2 rfl (by omega) (Tot.bindOf (put_eq x (by omega) _ _ _) ?_)))
        refine Tot.bindIdx 0 rfl (by omega) (Tot.bindIdx 1 rfl (by omega) (Tot.bindIdx 2 rfl (by omega) (Tot.bindOf (put_ref x (by omega) _ _ _) ?_)))
        have hs := PutF_small x z[0] z[1] z[2]
        refine Tot.jnR (fun m : Bool => m = false) (fun j hj => ?_) (fun m hm => ?_)
        · exact Tot.ite (fun e => by simp at e) (fun _ => Tot.bindOf (same_self _ (by omega) (by omega)) (hj _ rfl))
        · subst hm
          exact Tot.ite (fun e => by cases e) (fun _ => Tot.next ⟨k + 1, hw, by omega⟩ (by simp only [hw, Int.toNat_natCast]; omega))
end Go.Proofs.Ytgbfjigliajbkaa

/- Chapter 37, fifth part: cutting, dealing, the laws of lists. -/
import Derived.Test.YtdjdoeengjdmmaaPureD
namespace Go.Proofs.Ytdjdoeengjdmmaa
open Go Go.Vc

-- cutting

def keep (f u : Int) (x : api_Sample) : Bool := decide (f ≤ x.fTick) && decide (x.fTick < u)
theorem between_1 (x : api_Sample) (f u : Int) : sample_Between_1 x f u = some (!keep f u x, f, u) := by
  unfold sample_Between_1 keep
  congr 2
  by_cases h1 : f ≤ x.fTick <;> by_cases h2 : x.fTick < u <;> simp [h1, h2] <;> omega

theorem ref_between (l : List api_Sample) (hl : l.length ≤ 1000000) (f u : Int) : Tot (exchangepointref37_Between l f u) (fun r => r = l.filter (keep f u)) := by
  unfold exchangepointref37_Between
  refine Tot.bindLoop (fun s : Int × List api_Sample => ∃ k : Nat, s.1 = k ∧ k ≤ l.length ∧ s.2 = (l.take k).filter (keep f u)) (fun s => l.length - s.1.toNat) (fun x => x = l.filter (keep f u)) ⟨0, rfl, Nat.zero_le _, by simp⟩ ?_ (fun x hx => Tot.some hx)
  rintro ⟨s1, out⟩ ⟨k, e, hk, ho⟩
  simp only at e ho
  subst e
  unfold exchangepointref37_Between_L0
  simp only
  refine Tot.ite (fun h => ?_) (fun h => ?_)
  · have hlt : k < l.length := by simpa using h
    have hw := cast_succ_w hlt (by omega)
    have hol : out.length ≤ k := by rw [ho]; exact Nat.le_trans (List.length_filter_le ..) (by simp; omega)
    have hstep : ((l.take (k + 1)).filter (keep f u)) = out ++ (if keep f u l[k] = true then [l[k]] else []) := by
      rw [take_succ_get (List.getElem?_eq_getElem hlt), List.filter_append, ← ho]
      congr 1
      by_cases hh : keep f u l[k] = true <;> simp [hh]
    refine Tot.bindIdx k rfl hlt (Tot.jnR (fun m => m = (l.take (k + 1)).filter (keep f u)) (fun j hj => ?_) (fun m hm => ?_))
    · refine Tot.ite (fun c => ?_) (fun c => ?_)
      · refine Tot.chk (by simp [LIM]; omega) (hj _ ?_)
        rw [hstep, if_pos (by exact c)]
      · refine hj _ ?_
        rw [hstep, if_neg (by unfold keep; rw [c]; simp), List.append_nil]
    · exact Tot.next ⟨k + 1, hw, hlt, hm⟩ (by simp only [hw, Int.toNat_natCast]; omega)
  · have : k = l.length := by simp at h; omega
    subst this
    rw [List.take_length] at ho
    exact Tot.out ho

theorem index_eq (l : List api_Sample) (hl : l.length ≤ 1000000) (f u : Int) : Tot (slices_IndexFunc l f u) (fun r => r.2 = (l, f, u) ∧ ((r.1 = -1 ∧ l.filter (keep f u) = l) ∨ ∃ k : Nat, r.1 = k ∧ k < l.length ∧ (l.take (k + 1)).filter (keep f u) = l.take k)) := by
  unfold slices_IndexFunc
  refine Tot.bindLoop (fun s : Int × Int × Int => ∃ k : Nat, s.1 = k ∧ s.2 = (u, f) ∧ k ≤ l.length ∧ (l.take k).filter (keep f u) = l.take k) (fun s => l.length - s.1.toNat)
    (fun x => match x with | .inl p => p.2 = (u, f) ∧ ∃ k : Nat, p.1 = k ∧ k < l.length ∧ (l.take (k + 1)).filter (keep f u) = l.take k | .inr p => p = (u, f) ∧ l.filter (keep f u) = l) ⟨0, rfl, rfl, Nat.zero_le _, by simp⟩ ?_ ?_
  · rintro ⟨s1, s2⟩ ⟨k, e, e2, hk, ho⟩
    simp only at e e2 ho
    subst e; subst e2
    unfold slices_IndexFunc_L0
    simp only
    refine Tot.ite (fun h => ?_) (fun h => ?_)
    · have hlt : k < l.length := by simpa using h
      have hw := cast_succ_w hlt (by omega)
      refine Tot.bindIdx k rfl hlt (Tot.bindIdx k rfl hlt (Tot.bindOf (between_1 _ _ _) ?_))
      have hstep : ((l.take (k + 1)).filter (keep f u)) = l.take k ++ (if keep f u l[k] = true then [l[k]] else []) := by
        rw [take_succ_get (List.getElem?_eq_getElem hlt), List.filter_append, ho]
        congr 1
        by_cases hh : keep f u l[k] = true <;> simp [hh]
      refine Tot.ite (fun c => ?_) (fun c => ?_)
      · refine Tot.out ⟨rfl, k, rfl, hlt, ?_⟩
        rw [hstep, if_neg (by simpa using c), List.append_nil]
      · refine Tot.next ⟨k + 1, hw, rfl, hlt, ?_⟩ (by simp only [hw, Int.toNat_natCast]; omega)
        rw [hstep, if_pos (by simpa using c), take_succ_get (List.getElem?_eq_getElem hlt)]
    · have : k = l.length := by simp at h; omega
      subst this
      rw [List.take_length] at ho
      exact Tot.out ⟨rfl, ho⟩
  · intro x hx
    cases x with
    | inl p =>
      obtain ⟨h1, h2⟩ := hx
      refine Tot.some ⟨?_, .inr h2⟩
      simp [h1]
    | inr p =>
      obtain ⟨h1, h2⟩ := hx
      refine Tot.some ⟨?_, .inl ⟨rfl, h2⟩⟩
      simp [h1]

theorem sample_between (l : List api_Sample) (hl : l.length ≤ 1000000) (f u : Int) : Tot (sample_Between l f u) (fun r => r = l.filter (keep f u)) := by
  have hlim : decide (l.length ≤ LIM) = true := decide_eq_true (show l.length ≤ 4294967296 by omega)
  unfold sample_Between clone_List_2
  refine Tot.bind (Tot.chk hlim (Tot.some ?_))
  unfold slices_DeleteFunc
  refine Tot.bind (Tot.bindT (index_eq l hl f u) ?_)
  rintro ⟨i, r2⟩ ⟨h1, h2⟩
  simp only at h1 h2
  subst h1
  simp only
  refine Tot.chk (by simp) ?_
  refine Tot.ite (fun c => ?_) (fun c => ?_)
  · have : i = -1 := by simpa using c
    rcases h2 with ⟨_, h2⟩ | ⟨k, h2, _⟩
    · exact Tot.some (Tot.some (by simp [h2]))
    · omega
  · rcases h2 with ⟨h2, _⟩ | ⟨k, rfl, hlt, h2⟩
    · simp [h2] at c
    · refine Tot.bindLoop (fun s : Int × Int × Int × Int × List api_Sample => ∃ i j : Nat, s.1 = i ∧ s.2.1 = j ∧ s.2.2.1 = u ∧ s.2.2.2.1 = f ∧ i < j ∧ j ≤ l.length ∧ s.2.2.2.2.length = l.length ∧ s.2.2.2.2.take i = (l.take j).filter (keep f u) ∧ ∀ t, j ≤ t → s.2.2.2.2[t]? = l[t]?) (fun s => l.length - s.2.1.toNat)
        (fun x : Int × Int × Int × List api_Sample => ∃ i : Nat, x.1 = i ∧ i ≤ x.2.2.2.length ∧ x.2.2.2.take i = l.filter (keep f u)) ⟨k, k + 1, rfl, cast_succ_w hlt (by omega), rfl, rfl, by omega, hlt, rfl, h2.symm, fun _ _ => rfl⟩ ?_ ?_
      · rintro ⟨s1, s2, s3, s4, c⟩ ⟨i, j, e1, e2, e3, e4, hij, hj, hc, ht, hd⟩
        simp only at e1 e2 e3 e4 hc ht hd
        subst e1; subst e2; subst e3; subst e4
        unfold slices_DeleteFunc_L0
        simp only
        refine Tot.ite (fun h => ?_) (fun h => ?_)
        · have hlt : j < l.length := by simp at h; omega
          have hjc : j < c.length := by omega
          have hcj : c[j] = l[j] := by
            have := hd j (Nat.le_refl _)
            rw [List.getElem?_eq_getElem hjc, List.getElem?_eq_getElem hlt] at this
            exact Option.some.inj this
          have hw := cast_succ_w hlt (by omega)
          have hwi := cast_succ_w (show i < l.length by omega) (by omega)
          have hstep : ((l.take (j + 1)).filter (keep s4 s3)) = c.take i ++ (if keep s4 s3 l[j] = true then [l[j]] else []) := by
            rw [take_succ_get (List.getElem?_eq_getElem hlt), List.filter_append, ← ht]
            congr 1
            by_cases hh : keep s4 s3 l[j] = true <;> simp [hh]
          refine Tot.bindIdx j rfl hjc (Tot.bindIdx j rfl hjc (Tot.bindOf (between_1 _ _ _) ?_))
          refine Tot.jnR (fun m : Int × List api_Sample => ∃ i' : Nat, m.1 = i' ∧ i' ≤ j ∧ m.2.length = l.length ∧ m.2.take i' = (l.take (j + 1)).filter (keep s4 s3) ∧ ∀ t, j + 1 ≤ t → m.2[t]? = l[t]?) (fun jj hjj => ?_) (fun m hm => ?_)
          · refine Tot.ite (fun c1 => ?_) (fun c1 => ?_)
            · have hic : i < c.length := by omega
              refine Tot.bindIdx i rfl hic (Tot.bindIdx i rfl hic (hjj _ ⟨i + 1, hwi, by omega, by simp [hc], ?_, fun t ht' => ?_⟩))
              · rw [hstep, if_pos (by simpa [hcj] using c1)]
                simp only [Int.toNat_natCast]
                rw [take_succ_get (k := i) (x := c[j]) (by rw [List.getElem?_set_self hic]), List.take_set_of_le (Nat.le_refl _), hcj]
              · simp only [Int.toNat_natCast]
                rw [List.getElem?_set_ne (by omega)]
                exact hd t (by omega)
            · refine hjj _ ⟨i, rfl, by omega, hc, ?_, fun t ht' => hd t (by omega)⟩
              rw [hstep, if_neg (by simpa [hcj] using c1), List.append_nil]
          · obtain ⟨i', m1, m2, m3, m4, m5⟩ := hm
            exact Tot.next ⟨i', j + 1, m1, hw, rfl, rfl, by omega, hlt, m3, m4, m5⟩ (by simp only [hw, Int.toNat_natCast]; omega)
        · have : j = l.length := by simp at h; omega
          subst this
          rw [List.take_length] at ht
          exact Tot.out ⟨i, rfl, by simp only; omega, ht⟩
      · rintro ⟨x1, x2, x3, c⟩ ⟨i, e, hi, ht⟩
        simp only at e hi ht
        subst e
        simp only [Int.toNat_natCast]
        refine Tot.chk (by simp; omega) (Tot.chk (by simp; omega) (Tot.chk (by simp; omega) (Tot.some (Tot.some ?_))))
        simp only [List.drop_zero]
        rw [List.append_assoc, List.take_append_of_le_length (by simp; omega), List.take_take, Nat.min_self]
        exact ht

-- dealing

theorem next_tot (d : exchangepointmill_Deck) (hd : DeckOk d) (n : Int) (hn : 0 < n) (hn' : n ≤ 4611686018427387904) : Tot (exchangepointmill_Deck_Next d n) (fun x => 0 ≤ x.1 ∧ x.1 < n ∧ DeckOk x.2) := by
  obtain ⟨r, d', e, h⟩ := next_eq d hd n hn hn'
  exact ⟨_, e, h⟩

theorem samples_tot (d : exchangepointmill_Deck) (hd : DeckOk d) : Tot (exchangepointmill_Deck_Samples d) (fun x => Ok x.1 ∧ x.1.length ≤ 15 ∧ DeckOk x.2) := by
  unfold exchangepointmill_Deck_Samples
  refine Tot.bindT (next_tot d hd 100 (by omega) (by omega)) ?_
  rintro ⟨t0, d⟩ ⟨t1, t2, hd⟩
  refine Tot.bindT (next_tot d hd 9 (by omega) (by omega)) ?_
  rintro ⟨q0, d⟩ ⟨q1, q2, hd⟩
  refine Tot.bindT (next_tot d hd 1000 (by omega) (by omega)) ?_
  rintro ⟨p0, d⟩ ⟨p1, p2, hd⟩
  refine Tot.bindT (next_tot d hd 16 (by omega) (by omega)) ?_
  rintro ⟨k0, d⟩ ⟨k1, k2, hd⟩
  simp only at t1 t2 q1 q2 p1 p2 k1 k2 hd ⊢
  refine Tot.bindLoop (fun s : Int × Int × Int × Int × Int × Int × Int × List api_Sample × exchangepointmill_Deck => 0 ≤ s.1 ∧ s.1 + s.2.2.2.2.2.2.2.1.length ≤ 15 ∧ DeckOk s.2.2.2.2.2.2.2.2 ∧ Ok s.2.2.2.2.2.2.2.1 ∧
      (0 ≤ s.2.1 ∧ s.2.1 ≤ 100 + 5 * s.2.2.2.2.2.2.2.1.length) ∧ (0 ≤ s.2.2.1 ∧ s.2.2.1 ≤ 9 + 3 * s.2.2.2.2.2.2.2.1.length) ∧ (0 ≤ s.2.2.2.1 ∧ s.2.2.2.1 ≤ 1000 + 53 * s.2.2.2.2.2.2.2.1.length) ∧
      ∀ e ∈ s.2.2.2.2.2.2.2.1, e.fTick ≤ s.2.1 ∧ e.fSeq ≤ s.2.2.1 ∧ s.2.2.1 - e.fSeq ≤ s.2.2.2.1 - e.fPool) (fun s => s.1.toNat)
      (fun x => Ok x.2 ∧ x.2.length ≤ 15 ∧ DeckOk x.1) ⟨k1, by simp; omega, hd, ok_nil, ⟨t1, by simp; omega⟩, ⟨q1, by simp; omega⟩, ⟨p1, by simp; omega⟩, fun e he => by cases he⟩ ?_ (fun x hx => Tot.some ⟨hx.1, hx.2.1, hx.2.2⟩)
  rintro ⟨k, t, q, p, i, o, b, l, d⟩ ⟨h1, h2, hd, hok, ht, hq, hp, he⟩
  simp only at h1 h2 hd hok ht hq hp he
  unfold exchangepointmill_Deck_Samples_L0
  simp only
  refine Tot.ite (fun c => ?_) (fun c => ?_)
  · have hk : 0 < k := by simpa using c
    refine Tot.bindT (next_tot d hd 3 (by omega) (by omega)) ?_
    rintro ⟨r1, d⟩ ⟨a1, b1, hd⟩
    refine Tot.bindT (next_tot d hd 5 (by omega) (by omega)) ?_
    rintro ⟨r2, d⟩ ⟨a2, b2, hd⟩
    refine Tot.bindT (next_tot d hd 50 (by omega) (by omega)) ?_
    rintro ⟨r3, d⟩ ⟨a3, b3, hd⟩
    refine Tot.bindT (next_tot d hd 6 (by omega) (by omega)) ?_
    rintro ⟨r4, d⟩ ⟨a4, b4, hd⟩
    refine Tot.bindT (next_tot d hd 6 (by omega) (by omega)) ?_
    rintro ⟨r5, d⟩ ⟨a5, b5, hd⟩
    refine Tot.bindT (next_tot d hd 1500 (by omega) (by omega)) ?_
    rintro ⟨r6, d⟩ ⟨a6, b6, hd⟩
    simp only at a1 b1 a2 b2 a3 b3 a4 b4 a5 b5 a6 b6 hd ⊢
    simp (disch := omega) only [w64_id]
    have hL : ∀ x : api_Sample, (l ++ [x]).length = l.length + 1 := fun x => by simp
    refine Tot.chk (by simp [LIM]; omega) (Tot.next ⟨by simp only; omega, by simp only [hL]; omega, hd, ⟨fun s hs => ?_, ?_⟩, ⟨by simp only; omega, by simp only [hL]; omega⟩, ⟨by simp only; omega, by simp only [hL]; omega⟩, ⟨by simp only; omega, by simp only [hL]; omega⟩, fun e h => ?_⟩ (by simp only; omega))
    · rcases List.mem_append.1 hs with hs | hs
      · exact hok.1 s hs
      · rw [List.mem_singleton.1 hs]; unfold sOk; simp only; omega
    · simp only
      rw [List.pairwise_append]
      refine ⟨hok.2, List.pairwise_singleton _ _, fun x hx y hy => ?_⟩
      rw [List.mem_singleton.1 hy]
      have := he x hx
      unfold after
      simp only
      omega
    · simp only at h ⊢
      rcases List.mem_append.1 h with h | h
      · have := he e h; omega
      · rw [List.mem_singleton.1 h]; simp only; omega
  · exact Tot.out ⟨hok, by simp only; omega, hd⟩

-- the laws

theorem Ok.sub {l m : List api_Sample} (h : Ok l) (hs : m.Sublist l) : Ok m := ⟨fun s hm => h.1 s (hs.subset hm), h.2.sublist hs⟩
theorem new_ok (l : List Int) (hl : l.length ≤ 9223372036854775807) : DeckOk ⟨l, 0⟩ := ⟨Int.le_refl _, by simp only; omega, hl⟩

theorem merges_eq (a0 : List Int) (h0 : (∀ y ∈ a0, I64 y) ∧ a0.length ≤ maxLen) (a1 : Int) (_ : I64 a1) : exchangepointlaw37_SampleMerges a0 a1 = some true := by
  refine Tot.eq ?_
  unfold exchangepointlaw37_SampleMerges exchangepointmill_New
  refine Tot.bind (Tot.some ?_)
  refine Tot.bindT (samples_tot _ (new_ok a0 h0.2)) ?_
  rintro ⟨a, d⟩ ⟨hok, hlen, _⟩
  simp only at hok hlen ⊢
  refine Tot.bindLoop (fun s : Int × List api_Sample × List api_Sample => ∃ k : Nat, s.1 = k ∧ k ≤ a.length ∧ s.2.1.Sublist (a.take k) ∧ s.2.2.Sublist (a.take k) ∧ ∀ x, x ∈ a.take k ↔ x ∈ s.2.2 ∨ x ∈ s.2.1) (fun s => a.length - s.1.toNat)
    (fun x => x.1.Sublist a ∧ x.2.Sublist a ∧ ∀ y, y ∈ a ↔ y ∈ x.2 ∨ y ∈ x.1) ⟨0, rfl, Nat.zero_le _, by simp, by simp, fun x => by simp⟩ ?_ ?_
  · rintro ⟨s1, c, b⟩ ⟨k, e, hk, hc, hb, hm⟩
    simp only at e hc hb hm
    subst e
    unfold exchangepointlaw37_SampleMerges_L0
    simp only
    refine Tot.ite (fun h => ?_) (fun h => ?_)
    · have hlt : k < a.length := by simpa using h
      have hw := cast_succ_w hlt (by omega)
      have lc := hc.length_le
      have lb := hb.length_le
      rw [List.length_take] at lc lb
      have ht := take_succ_get (List.getElem?_eq_getElem hlt)
      refine Tot.bindIdx k rfl hlt (Tot.jnR (fun m : List api_Sample × List api_Sample => m.1.Sublist (a.take (k + 1)) ∧ m.2.Sublist (a.take (k + 1)) ∧ ∀ x, x ∈ a.take (k + 1) ↔ x ∈ m.2 ∨ x ∈ m.1) (fun j hj => ?_) (fun m hm => ?_))
      · refine Tot.ite (fun _ => ?_) (fun _ => ?_)
        · refine Tot.chk (by simp [LIM]; omega) (hj _ ⟨?_, ?_, fun x => ?_⟩)
          · rw [ht]; exact hc.trans (List.sublist_append_left ..)
          · rw [ht]; exact hb.append (List.Sublist.refl _)
          · rw [ht, List.mem_append, hm x]; simp only [List.mem_append]
            constructor
            · rintro ((h | h) | h) <;> simp [h]
            · rintro ((h | h) | h) <;> simp [h]
        · refine Tot.chk (by simp [LIM]; omega) (hj _ ⟨?_, ?_, fun x => ?_⟩)
          · rw [ht]; exact hc.append (List.Sublist.refl _)
          · rw [ht]; exact hb.trans (List.sublist_append_left ..)
          · rw [ht, List.mem_append, hm x]; simp only [List.mem_append]
            constructor
            · rintro ((h | h) | h) <;> simp [h]
            · rintro (h | (h | h)) <;> simp [h]
      · exact Tot.next ⟨k + 1, hw, hlt, hm.1, hm.2.1, hm.2.2⟩ (by simp only [hw, Int.toNat_natCast]; omega)
    · have : k = a.length := by simp at h; omega
      subst this
      rw [List.take_length] at hc hb hm
      exact Tot.out ⟨hc, hb, hm⟩
  · rintro ⟨c, b⟩ ⟨hc, hb, hm⟩
    simp only at hc hb hm ⊢
    have lc := hc.length_le
    have lb := hb.length_le
    have va : VOk a := ⟨hok, by omega⟩
    have vb : VOk b := ⟨hok.sub hb, by omega⟩
    have vc : VOk c := ⟨hok.sub hc, by omega⟩
    have same : exchangepointref37_Same a a = some true := same_list a (by omega)
    refine Tot.bindT (sample_merge b c (by omega) (by omega)) fun r1 h1 => ?_
    refine Tot.bindT (sample_merge c b (by omega) (by omega)) fun r2 h2 => ?_
    refine Tot.bindT (sample_merge a a (by omega) (by omega)) fun r3 h3 => ?_
    refine Tot.bindT (sample_merge a b (by omega) (by omega)) fun r4 h4 => ?_
    obtain rfl := h1.fine vb vc va hm
    obtain rfl := h2.fine vc vb va (fun x => (hm x).trans or_comm)
    obtain rfl := h3.fine va va va (fun x => (or_self_iff).symm)
    obtain rfl := h4.fine va vb va (fun x => ⟨.inl, fun h => h.elim id (fun h => hb.subset h)⟩)
    refine Tot.jn ?_
    refine Tot.ite (fun _ => ?_) (fun c => by simp at c)
    refine Tot.bindOf same (Tot.ite (fun _ => ?_) (fun c => by cases c))
    refine Tot.bindOf same (Tot.ite (fun _ => ?_) (fun c => by cases c))
    refine Tot.bindOf same (Tot.ite (fun _ => ?_) (fun c => by cases c))
    refine Tot.bindOf same (Tot.ite (fun _ => ?_) (fun c => by cases c))
    exact Tot.bindOf awake_eq (Tot.some rfl)

theorem lost_tot (l : List api_Sample) (hl : l.length ≤ 1000000) : ∃ n, sample_Lost l = some n ∧ exchangepointref37_Lost l = some n := by
  suffices h : Tot (sample_Lost l) (fun _ => True) by
    obtain ⟨n, e, _⟩ := h
    exact ⟨n, e, e⟩
  unfold sample_Lost
  refine Tot.ite (fun _ => Tot.some trivial) (fun c => ?_)
  have : 0 < l.length := by simp at c; exact List.length_pos_iff.2 c
  exact Tot.bindIdx (l.length - 1) (by rw [w64_id (by omega) (by omega)]; omega) (by omega) (Tot.bindIdx 0 rfl this (Tot.some trivial))
theorem span_tot (l : List api_Sample) (hl : l.length ≤ 1000000) : ∃ n, sample_Span l = some n ∧ exchangepointref37_Span l = some n := by
  suffices h : Tot (sample_Span l) (fun _ => True) by
    obtain ⟨n, e, _⟩ := h
    exact ⟨n, e, e⟩
  unfold sample_Span
  refine Tot.ite (fun _ => Tot.some trivial) (fun c => ?_)
  have : 0 < l.length := by simp at c; exact List.length_pos_iff.2 c
  exact Tot.bindIdx (l.length - 1) (by rw [w64_id (by omega) (by omega)]; omega) (by omega) (Tot.bindIdx 0 rfl this (Tot.some trivial))

theorem lists_eq (a0 : List api_Sample) {p0 : Prop} (_ : p0) (a1 : List Int) (h1 : (∀ y ∈ a1, I64 y) ∧ a1.length ≤ maxLen) (a2 : Int) (_ : I64 a2) (a3 : Int) (_ : I64 a3) (a4 : Int) (_ : I64 a4) (a5 : Int) (_ : I64 a5) : exchangepointlaw37_SampleLists a0 a1 a2 a3 a4 a5 = some true := by
  refine Tot.eq ?_
  unfold exchangepointlaw37_SampleLists exchangepointmill_New
  refine Tot.ite (fun _ => Tot.bindOf awake_eq (Tot.some rfl)) (fun c => ?_)
  have hraw : a0.length ≤ 300 := by simp at c; omega
  refine Tot.bind (Tot.some ?_)
  refine Tot.bindT (samples_tot _ (new_ok a1 h1.2)) ?_
  rintro ⟨a, d⟩ ⟨_, hlen, _⟩
  simp only at hlen ⊢
  refine Tot.bindLoop (fun s : Int × List api_Sample × List api_Sample => ∃ k : Nat, s.1 = k ∧ k ≤ a.length ∧ s.2.1.length ≤ k ∧ s.2.2.length ≤ k) (fun s => a.length - s.1.toNat) (fun x => x.1.length ≤ 15 ∧ x.2.length ≤ 15) ⟨0, rfl, Nat.zero_le _, by simp, by simp⟩ ?_ ?_
  · rintro ⟨s1, c, b⟩ ⟨k, e, hk, hc, hb⟩
    simp only at e hc hb
    subst e
    unfold exchangepointlaw37_SampleLists_L0
    simp only
    refine Tot.ite (fun h => ?_) (fun h => ?_)
    · have hlt : k < a.length := by simpa using h
      have hw := cast_succ_w hlt (by omega)
      refine Tot.bindIdx k rfl hlt (Tot.jnR (fun m : List api_Sample => m.length ≤ k + 1) (fun j hj => ?_) (fun m hm => Tot.jnR (fun m : List api_Sample => m.length ≤ k + 1) (fun j hj => ?_) (fun m' hm' => ?_)))
      · refine Tot.ite (fun _ => Tot.chk (by simp [LIM]; omega) (hj _ (by simp; omega))) (fun _ => hj _ (by omega))
      · refine Tot.ite (fun _ => Tot.chk (by simp [LIM]; omega) (hj _ (by simp; omega))) (fun _ => hj _ (by omega))
      · exact Tot.next ⟨k + 1, hw, hlt, hm', hm⟩ (by simp only [hw, Int.toNat_natCast]; omega)
    · exact Tot.out ⟨by simp only; omega, by simp only; omega⟩
  · rintro ⟨c, b⟩ ⟨hc, hb⟩
    simp only at hc hb ⊢
    refine Tot.chk (decide_eq_true (show a.length ≤ 4294967296 by omega)) (Tot.jnR (fun m : List api_Sample => m.length ≤ 15) (fun j hj => ?_) (fun m hm => ?_))
    · refine Tot.ite (fun c0 => ?_) (fun _ => hj _ hlen)
      have hpos : 0 < a.length := by simp at c0; omega
      have hm1 := mod_eq a3 (a.length : Int) (by omega) (by omega)
      have hb1 := emod_lt' a3 (show (0 : Int) < a.length by omega)
      have hix : (a3 % (a.length : Int)).toNat < a.length := by omega
      have hidx : a3 % (a.length : Int) = ((a3 % (a.length : Int)).toNat : Int) := by omega
      refine Tot.bindOf hm1 (Tot.bindIdx _ hidx hix (Tot.bindOf (mod_eq a2 5 (by omega) (by omega)) ?_))
      refine Tot.ite (fun _ => ?_) (fun _ => ?_)
      · exact Tot.bindIdx _ hidx hix (Tot.bindOf (mod_eq a4 5 (by omega) (by omega)) (Tot.bindIdx _ hidx hix (hj _ (by simp; omega))))
      refine Tot.ite (fun _ => ?_) (fun _ => ?_)
      · exact Tot.bindIdx _ hidx hix (Tot.bindOf (mod_eq a4 5 (by omega) (by omega)) (Tot.bindIdx _ hidx hix (hj _ (by simp; omega))))
      refine Tot.ite (fun _ => ?_) (fun _ => ?_)
      · exact Tot.bindIdx _ hidx hix (Tot.bindOf (mod_eq a4 9 (by omega) (by omega)) (Tot.bindIdx _ hidx hix (hj _ (by simp; omega))))
      refine Tot.ite (fun _ => ?_) (fun _ => ?_)
      · exact Tot.bindOf (mod_eq a4 1002 (by omega) (by omega)) (Tot.bindIdx _ hidx hix (hj _ (by simp; omega)))
      refine Tot.ite (fun _ => ?_) (fun _ => hj _ hlen)
      · exact Tot.bindIdx _ hidx hix (Tot.bindIdx _ hidx hix (hj _ (by simp; omega)))
    · generalize hLL : ([a0, a, b, c, m] : List (List api_Sample)) = LL
      have hall : ∀ x ∈ LL, x.length ≤ 300 := by
        rw [← hLL]
        intro x hx
        simp only [List.mem_cons, List.not_mem_nil, or_false] at hx
        rcases hx with rfl | rfl | rfl | rfl | rfl <;> omega
      have hLn : LL.length = 5 := by rw [← hLL]; rfl
      refine Tot.bindLoop (fun s : Int => ∃ k : Nat, s = k ∧ k ≤ 5) (fun s => 5 - s.toNat) (fun x => x = .inr ()) ⟨0, rfl, Nat.zero_le _⟩ ?_ (fun x hx => by subst hx; exact Tot.bindOf awake_eq (Tot.some rfl))
      rintro s ⟨k, rfl, hk⟩
      unfold exchangepointlaw37_SampleLists_L1
      simp only [hLL]
      refine Tot.ite (fun h => ?_) (fun h => Tot.out rfl)
      have hlt : k < LL.length := by simpa using h
      have hw := cast_succ_w hlt (by omega)
      refine Tot.bindIdx k rfl hlt ?_
      have hx := hall _ (List.getElem_mem hlt)
      generalize LL[k] = x at hx
      have same : ∀ y : List api_Sample, y.length ≤ 300 → exchangepointref37_Same y y = some true := fun y hy => same_list y (by omega)
      have hfl : ∀ f u, (x.filter (keep f u)).length ≤ 300 := fun f u => Nat.le_trans (List.length_filter_le ..) hx
      obtain ⟨v1, ev1, hv1⟩ := sample_valid x (by omega)
      obtain ⟨v2, ev2, hv2⟩ := ref_valid x (by omega)
      have hv : v1 = v2 := Bool.eq_iff_iff.2 (hv1.trans hv2.symm)
      refine Tot.jnR (fun m : Bool => m = false) (fun j hj => ?_) (fun m hm => ?_)
      · refine Tot.bindOf ev1 (Tot.bindOf ev2 (Tot.ite (fun e => by simp [hv] at e) (fun _ => ?_)))
        refine Tot.bindOf (sample_between x (by omega) a4 a5).eq (Tot.bindOf (ref_between x (by omega) a4 a5).eq (Tot.bindOf (same _ (hfl _ _)) (Tot.ite (fun e => by cases e) (fun _ => ?_))))
        refine Tot.bindOf (mod_eq a4 150 (by omega) (by omega)) (Tot.bindOf (mod_eq a5 150 (by omega) (by omega)) (Tot.bindOf (sample_between x (by omega) _ _).eq ?_))
        refine Tot.bindOf (mod_eq a4 150 (by omega) (by omega)) (Tot.bindOf (mod_eq a5 150 (by omega) (by omega)) (Tot.bindOf (ref_between x (by omega) _ _).eq ?_))
        exact Tot.bindOf (same _ (hfl _ _)) (hj _ rfl)
      · subst hm
        refine Tot.ite (fun e => by cases e) (fun _ => Tot.jnR (fun m : Bool => m = false) (fun j hj => ?_) (fun m hm => ?_))
        · refine Tot.bindOf ev2 (Tot.ite (fun _ => ?_) (fun _ => hj _ rfl))
          obtain ⟨n, e1, e2⟩ := lost_tot x (by omega)
          obtain ⟨n', e1', e2'⟩ := span_tot x (by omega)
          exact Tot.bindOf e1 (Tot.bindOf e2 (Tot.ite (fun e => by simp at e) (fun _ => Tot.bindOf e1' (Tot.bindOf e2' (hj _ (by simp))))))
        · subst hm
          refine Tot.ite (fun e => by cases e) (fun _ => ?_)
          refine Tot.bindLoop (fun s : Int => ∃ k : Nat, s = k ∧ k ≤ 5) (fun s => 5 - s.toNat) (fun x => x = .inr ()) ⟨0, rfl, Nat.zero_le _⟩ ?_ (fun y hy => by subst hy; exact Tot.next ⟨k + 1, hw, by omega⟩ (by simp only [hw, Int.toNat_natCast]; omega))
          rintro s ⟨k, rfl, hk⟩
          unfold exchangepointlaw37_SampleLists_L2
          simp only [hLL]
          refine Tot.ite (fun h => ?_) (fun h => Tot.out rfl)
          have hlt : k < LL.length := by simpa using h
          have hw := cast_succ_w hlt (by omega)
          refine Tot.bindIdx k rfl hlt ?_
          have hz := hall _ (List.getElem_mem hlt)
          generalize LL[k] = z at hz
          obtain ⟨r1, er1, hr1⟩ := sample_merge x z (by omega) (by omega)
          obtain ⟨r2, er2, hr2⟩ := ref_merge x z (by omega) (by omega)
          obtain rfl := hr1.det hr2
          have hrl : r1.1.length ≤ 1000000 := by
            rcases hr1 with ⟨_, rfl⟩ | ⟨_, _, _, rfl⟩ | ⟨_, _, _, m, _, ⟨_, rfl⟩ | ⟨_, _, rfl⟩ | ⟨_, _, rfl⟩⟩ <;> simp only [List.length_nil] <;> omega
          refine Tot.bindOf er1 (Tot.bindOf er2 (Tot.jnR (fun m : Bool => m = false) (fun j hj => ?_) (fun m hm => ?_)))
          · exact Tot.ite (fun e => by simp at e) (fun _ => Tot.bindOf (same_list _ (by omega)) (hj _ rfl))
          · subst hm
            exact Tot.ite (fun e => by cases e) (fun _ => Tot.next ⟨k + 1, hw, by omega⟩ (by simp only [hw, Int.toNat_natCast]; omega))
end Go.Proofs.Ytdjdoeengjdmmaa

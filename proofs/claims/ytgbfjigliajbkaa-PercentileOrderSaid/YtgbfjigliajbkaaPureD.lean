/- Chapter 40, fourth part: the law of order. -/
import Derived.Test.YtgbfjigliajbkaaPureC
namespace Go.Proofs.Ytgbfjigliajbkaa
open Go Go.Vc

theorem pct_perm {l m : List Int} (h : l.Perm m) (p : Int) : PctF l p = PctF m p := by
  unfold PctF; rw [h.length_eq, srt_congr h]
theorem rts_perm {l m : List Int} (h : l.Perm m) (s : Int) : (rts l s).Perm (rts m s) := (h.filter _).map _
/-- a list turned round -/
def rot (l : List Int) (k : Nat) : List Int := l.drop k ++ l.take k
theorem rot_perm (l : List Int) (k : Nat) : (rot l k).Perm l := by
  have := List.perm_append_comm (l₁ := l.drop k) (l₂ := l.take k)
  rwa [List.take_append_drop] at this
theorem rot_get {l m : List Int} (hlm : l.length = m.length) {k i : Nat} (hk : k ≤ l.length) (h : i < (rot l k).length) (h' : i < (rot m k).length) : ∃ j, ∃ (g : j < l.length) (g' : j < m.length), (rot l k)[i] = l[j] ∧ (rot m k)[i] = m[j] := by
  have hl := (rot_perm l k).length_eq
  unfold rot at h h' ⊢
  by_cases hi : i < l.length - k
  · refine ⟨k + i, by omega, by omega, ?_, ?_⟩
    · rw [List.getElem_append_left (by simp; omega), List.getElem_drop]
    · rw [List.getElem_append_left (by simp; omega), List.getElem_drop]
  · have h2 : i < l.length := by unfold rot at hl; omega
    refine ⟨i - (l.length - k), by omega, by omega, ?_, ?_⟩
    · rw [List.getElem_append_right (by simp; omega), List.getElem_take]
      simp
    · rw [List.getElem_append_right (by simp; omega), List.getElem_take]
      simp [hlm]
theorem rot_valid {s : api_Series} (v : VOk s) {k : Nat} (hk : k ≤ s.fIn.length) : VOk ⟨s.fPort, s.fSeconds, rot s.fIn k, rot s.fOut k⟩ := by
  have e1 := (rot_perm s.fIn k).length_eq
  have e2 := (rot_perm s.fOut k).length_eq
  refine ⟨v.port, v.sec, by simp only; rw [e1, e2]; exact v.len, by simp only; rw [e1]; exact v.most, fun i h h' => ?_⟩
  obtain ⟨j, g, g', q1, q2⟩ := rot_get v.len hk h h'
  simp only at q1 q2 ⊢
  rw [q1, q2]
  exact v.all j g g'
theorem rot_used {s : api_Series} (v : VOk s) {k : Nat} (hk : k ≤ s.fIn.length) (p : Int) : UsedF ⟨s.fPort, s.fSeconds, rot s.fIn k, rot s.fOut k⟩ p = UsedF s p := by
  unfold UsedF
  rw [if_pos v, if_pos (rot_valid v hk)]
  simp only
  rw [pct_perm (rts_perm (rot_perm s.fIn k) s.fSeconds), pct_perm (rts_perm (rot_perm s.fOut k) s.fSeconds)]

-- growing

theorem recs_le : ∀ {l m : List Int} {s : Int}, 1 ≤ s → l.length = m.length → (∀ i (h : i < l.length) (h' : i < m.length), (l[i] = -1 ↔ m[i] = -1) ∧ l[i] ≤ m[i] ∧ good l[i]) → ∀ i (h : i < (rts l s).length) (h' : i < (rts m s).length), (rts l s)[i] ≤ (rts m s)[i]
  | [], [], _, _, _, _, i, h, _ => by simp [rts, rec'] at h
  | x :: l, y :: m, s, hs, hl, hp, i, h, h' => by
    have ih := recs_le (l := l) (m := m) hs (by simpa using hl) (fun i h h' => by have := hp (i + 1) (by simp; omega) (by simp; omega); simpa using this)
    have h0 := hp 0 (by simp) (by simp)
    simp only [List.getElem_cons_zero] at h0
    obtain ⟨h1, h2, h3⟩ := h0
    by_cases hx : x = -1
    · have hy := h1.1 hx
      have e1 : rts (x :: l) s = rts l s := by unfold rts rec'; simp [hx]
      have e2 : rts (y :: m) s = rts m s := by unfold rts rec'; simp [hy]
      simp only [e1, e2] at h h' ⊢
      exact ih i h h'
    · have hy : y ≠ -1 := fun e => hx (h1.2 e)
      have e1 : rts (x :: l) s = rt x s :: rts l s := by unfold rts rec'; simp [hx]
      have e2 : rts (y :: m) s = rt y s :: rts m s := by unfold rts rec'; simp [hy]
      simp only [e1, e2] at h h' ⊢
      cases i with
      | zero =>
        simp only [List.getElem_cons_zero]
        rcases h3 with h3 | h3
        · exact absurd h3 hx
        · exact rt_mono h3.1 h2 hs
      | succ i =>
        simp only [List.getElem_cons_succ]
        exact ih i (by simpa using h) (by simpa using h')
  | [], _ :: _, _, _, h, _, _, _, _ => by simp at h
  | _ :: _, [], _, _, h, _, _, _, _ => by simp at h
theorem pct_mono {l m : List Int} (hl : l.length = m.length) (hp : ∀ i (h : i < l.length) (h' : i < m.length), l[i] ≤ m[i]) (p : Int) : (PctF l p).1 ≤ (PctF m p).1 := by
  unfold PctF
  rw [← hl]
  split
  · rename_i hh
    split
    · exact Int.le_refl _
    · rename_i hn
      have hr := rk_lt hh.1 hh.2.1 (show 0 < l.length by omega)
      have h1 : rk l.length p < (srt l).length := by rw [srt_len]; exact hr
      have h2 : rk l.length p < (srt m).length := by rw [srt_len, ← hl]; exact hr
      simp only [List.getElem?_eq_getElem h1, List.getElem?_eq_getElem h2, Option.getD_some]
      exact srt_mono hl hp h1 h2
  · exact Int.le_refl _
theorem used_mono {s : api_Series} (v : VOk s) {m : List Int} (hl : m.length = s.fIn.length) (hm : ∀ i (h : i < s.fIn.length) (h' : i < m.length), (s.fIn[i] = -1 ↔ m[i] = -1) ∧ s.fIn[i] ≤ m[i] ∧ bin m[i]) (p : Int) :
    (UsedF ⟨s.fPort, s.fSeconds, m, s.fOut⟩ p).2 = (UsedF s p).2 ∧ ((UsedF s p).2 = 0 → (UsedF s p).1 ≤ (UsedF ⟨s.fPort, s.fSeconds, m, s.fOut⟩ p).1) := by
  have vg : VOk ⟨s.fPort, s.fSeconds, m, s.fOut⟩ := by
    refine ⟨v.port, v.sec, by simp only; rw [hl]; exact v.len, by simp only; rw [hl]; exact v.most, fun i h h' => ?_⟩
    simp only at h h' ⊢
    have g : i < s.fIn.length := by omega
    obtain ⟨h1, _, h3⟩ := hm i g h
    have := v.all i g h'
    exact ⟨h3, this.2.1, h1.symm.trans this.2.2⟩
  have ll : (rts s.fIn s.fSeconds).length = (rts m s.fSeconds).length := by
    rw [rts_len, rts_len]
    exact rec_same hl.symm fun i h h' => (hm i h h').1
  have hle := pct_mono ll (recs_le v.sec.1 hl.symm (fun i h h' => ⟨(hm i h h').1, (hm i h h').2.1, v.goodIn _ (List.getElem_mem h)⟩)) p
  have hc := pct_code ll p
  unfold UsedF
  rw [if_pos v, if_pos vg]
  simp only
  rw [← hc]
  by_cases h0 : (PctF (rts s.fIn s.fSeconds) p).2 = 0
  · rw [if_pos h0, if_pos h0]
    refine ⟨rfl, fun _ => ?_⟩
    simp only
    omega
  · rw [if_neg h0, if_neg h0]
    exact ⟨rfl, fun h => absurd h h0⟩

-- at most five of a hundred

theorem few_above {l : List Int} {u : Int} (hn : 0 < l.length) (h9 : l.length ≤ 9000) (hu : (PctF l 95).1 ≤ u) : l.countP (fun x => decide (u < x)) * 100 ≤ 5 * l.length := by
  have hr := rk_lt (n := l.length) (p := 95) (by omega) (by omega) hn
  have hr' : rk l.length 95 < (srt l).length := by rw [srt_len]; exact hr
  have e : (PctF l 95).1 = (srt l)[rk l.length 95] := by
    unfold PctF
    rw [if_pos ⟨by omega, by omega, h9⟩, if_neg (by omega), List.getElem?_eq_getElem hr']
    rfl
  rw [e] at hu
  have h1 := srt_le l hr'
  have h2 := (rk_up (n := l.length) (p := 95) (by omega) hn).1
  have h3 : (95 : Int).toNat = 95 := rfl
  rw [h3] at h2
  generalize (srt l)[rk l.length 95] = x at hu h1
  have h4 : l.countP (fun y => decide (u < y)) ≤ l.countP (fun y => decide (x < y)) := List.countP_mono_left fun y _ hy => by
    simp only [decide_eq_true_eq] at hy ⊢; omega
  have h5 : l.length = l.countP (fun y => decide (y ≤ x)) + l.countP (fun y => decide (x < y)) := by
    rw [List.length_eq_countP_add_countP (fun y => decide (y ≤ x))]
    congr 1
    refine List.countP_congr fun y _ => ?_
    simp
  omega

theorem order_loop (s : api_Series) (v : VOk s) (d : exchangepointmill_Deck) (u : Int × Int) : Tot (loop (exchangepointlaw40_PercentileOrder_L0 (s, d) u) ((0 : Int), (0 : Int), (0 : Int), (0 : Int)))
    (fun x => x.1 = ((rts s.fIn s.fSeconds).countP (fun y => decide (u.1 < y)) : Nat) ∧ x.2.1 = ((rts s.fOut s.fSeconds).countP (fun y => decide (u.1 < y)) : Nat) ∧ x.2.2 = ((rts s.fIn s.fSeconds).length : Nat)) := by
  have el := v.len; have em := v.most
  refine Tot.loop (fun st : Int × Int × Int × Int => ∃ k : Nat, st.2.2.2 = k ∧ k ≤ s.fIn.length ∧ st.1 = ((rts (s.fIn.take k) s.fSeconds).countP (fun y => decide (u.1 < y)) : Nat) ∧ st.2.1 = ((rts (s.fOut.take k) s.fSeconds).countP (fun y => decide (u.1 < y)) : Nat) ∧ st.2.2.1 = ((rts (s.fIn.take k) s.fSeconds).length : Nat))
    (fun st => s.fIn.length - st.2.2.2.toNat) _ ?_ ⟨0, rfl, Nat.zero_le _, by simp [rts, rec'], by simp [rts, rec'], by simp [rts, rec']⟩
  rintro ⟨x1, x2, x3, x4⟩ ⟨k, e, hk, e1, e2, e3⟩
  simp only at e e1 e2 e3
  subst e
  unfold exchangepointlaw40_PercentileOrder_L0
  simp only
  refine Tot.ite (fun h => ?_) (fun h => ?_)
  · have hlt : k < s.fIn.length := by simpa using h
    have hlt' : k < s.fOut.length := by omega
    have hw := cast_succ_w hlt (by omega)
    have hpr := v.all k hlt hlt'
    have c1 : (rts (s.fIn.take k) s.fSeconds).length ≤ k := by rw [rts_len]; exact Nat.le_trans (rec_len _) (by rw [List.length_take]; omega)
    have c2 : (rts (s.fOut.take k) s.fSeconds).length ≤ k := by rw [rts_len]; exact Nat.le_trans (rec_len _) (by rw [List.length_take]; omega)
    have b1 : (rts (s.fIn.take k) s.fSeconds).countP (fun y => decide (u.1 < y)) ≤ k := Nat.le_trans List.countP_le_length c1
    have b2 : (rts (s.fOut.take k) s.fSeconds).countP (fun y => decide (u.1 < y)) ≤ k := Nat.le_trans List.countP_le_length c2
    have st : ∀ {l : List Int} (h : k < l.length), rts (l.take (k + 1)) s.fSeconds = rts (l.take k) s.fSeconds ++ (if l[k] = -1 then [] else [rt l[k] s.fSeconds]) := fun {l} h => by
      unfold rts
      rw [rec_step h, List.map_append]
      congr 1
      split <;> rfl
    refine Tot.jnR (fun m : Int × Int × Int => m.1 = ((rts (s.fIn.take (k + 1)) s.fSeconds).countP (fun y => decide (u.1 < y)) : Nat) ∧ m.2.1 = ((rts (s.fOut.take (k + 1)) s.fSeconds).countP (fun y => decide (u.1 < y)) : Nat) ∧ m.2.2 = ((rts (s.fIn.take (k + 1)) s.fSeconds).length : Nat)) (fun j hj => ?_)
      (fun m hm => Tot.next ⟨k + 1, hw, hlt, hm.1, hm.2.1, hm.2.2⟩ (by simp only [hw, Int.toNat_natCast]; omega))
    refine Tot.bindIdx k rfl hlt (Tot.ite (fun c => ?_) (fun c => ?_))
    · have hx : s.fIn[k] = -1 := by have := hpr.1; unfold bin at this; simp at c; omega
      have hy : s.fOut[k] = -1 := hpr.2.2.1 hx
      refine hj _ ?_
      rw [st hlt, st hlt', if_pos hx, if_pos hy, List.append_nil, List.append_nil]
      exact ⟨e1, e2, e3⟩
    · have hx : 0 ≤ s.fIn[k] := by simpa using c
      have hx' : s.fIn[k] ≠ -1 := by omega
      have hy' : s.fOut[k] ≠ -1 := fun e => hx' (hpr.2.2.2 e)
      have hy : 0 ≤ s.fOut[k] := by have := hpr.2.1; unfold bin at this; omega
      have r1 : RateF s.fIn[k] s.fSeconds = (rt s.fIn[k] s.fSeconds, 0) := by
        unfold RateF; rw [if_pos ⟨hx, hpr.1.2, v.sec⟩]
      have r2 : RateF s.fOut[k] s.fSeconds = (rt s.fOut[k] s.fSeconds, 0) := by
        unfold RateF; rw [if_pos ⟨hy, hpr.2.1.2, v.sec⟩]
      rw [st hlt, st hlt', if_neg hx', if_neg hy'] at hj
      simp only [List.countP_append, List.countP_singleton, List.length_append, List.length_cons, List.length_nil] at hj
      refine Tot.bindIdx k rfl hlt (Tot.bindOf ((rate_eq _ _).trans (congrArg some r1)) ?_)
      refine Tot.jnR (fun m : Int => m = (((rts (s.fIn.take k) s.fSeconds).countP (fun y => decide (u.1 < y)) + (if decide (u.1 < rt s.fIn[k] s.fSeconds) = true then 1 else 0) : Nat) : Int)) (fun j2 hj2 => ?_) (fun m hm => ?_)
      · refine Tot.ite (fun c => hj2 _ ?_) (fun c => hj2 _ ?_)
        · rw [if_pos c, e1, w64_id (by omega) (by omega)]; rfl
        · rw [if_neg (by rw [c]; simp), e1]; rfl
      · refine Tot.bindIdx k rfl hlt' (Tot.bindOf ((rate_eq _ _).trans (congrArg some r2)) ?_)
        have w3 : w64 (x3 + 1) = (((rts (s.fIn.take k) s.fSeconds).length + (0 + 1) : Nat) : Int) := by rw [e3, w64_id (by omega) (by omega)]; rfl
        refine Tot.ite (fun c => hj _ ⟨hm, ?_, w3⟩) (fun c => hj _ ⟨hm, ?_, w3⟩)
        · simp only
          rw [if_pos c, e2, w64_id (by omega) (by omega)]; rfl
        · simp only
          rw [if_neg (by rw [c]; simp), e2]; rfl
  · have : k = s.fIn.length := by simp at h; omega
    subst this
    rw [List.take_length] at e1 e3
    rw [el, List.take_length] at e2
    exact Tot.out ⟨e1, e2, e3⟩

theorem order_law (a0 : List Int) (h0 : (∀ y ∈ a0, I64 y) ∧ a0.length ≤ maxLen) (a1 : Int) {p1 : Prop} (_ : p1) (a2 : Int) {p2 : Prop} (_ : p2) (a3 : Int) {p3 : Prop} (_ : p3) : exchangepointlaw40_PercentileOrder a0 a1 a2 a3 = some true := by
  refine Tot.eq ?_
  unfold exchangepointlaw40_PercentileOrder exchangepointmill_New
  refine Tot.bind (Tot.some ?_)
  refine Tot.bindT (series_tot _ (new_ok a0 h0.2)) ?_
  rintro ⟨s, d⟩ ⟨v, hl, _⟩
  simp only at v hl ⊢
  have el := v.len
  refine Tot.bindOf (used_eq s (by omega) 95) ?_
  have hlA : (rts s.fIn s.fSeconds).length ≤ 29 := by rw [rts_len]; exact Nat.le_trans (rec_len _) hl
  have hcode : (UsedF s 95).2 = if (rts s.fIn s.fSeconds).length = 0 then 39 else 0 := by
    have hp : (PctF (rts s.fIn s.fSeconds) 95).2 = if (rts s.fIn s.fSeconds).length = 0 then 39 else 0 := by
      unfold PctF
      rw [if_pos (show (1 : Int) ≤ 95 ∧ (95 : Int) ≤ 100 ∧ (rts s.fIn s.fSeconds).length ≤ 9000 from ⟨by omega, by omega, by omega⟩)]
      split <;> rfl
    unfold UsedF
    rw [if_pos v, ← hp]
    by_cases h : (PctF (rts s.fIn s.fSeconds) 95).2 = 0
    · rw [if_pos h, h]
    · rw [if_neg h]
  refine Tot.ite (fun c => ?_) (fun c => ?_)
  · have hne : (rts s.fIn s.fSeconds).length = 0 := Classical.byContradiction fun h => by rw [hcode, if_neg h] at c; simp at c
    refine Tot.jn (Tot.ite (fun _ => Tot.bindOf awake_eq (Tot.some rfl)) (fun c => ?_))
    rw [hcode, if_pos hne] at c; simp at c
  · have hpos : 0 < (rts s.fIn s.fSeconds).length := by
      rcases Nat.eq_zero_or_pos (rts s.fIn s.fSeconds).length with h | h
      · rw [hcode, if_pos h] at c; simp at c
      · exact h
    have hc0 : (UsedF s 95).2 = 0 := by rw [hcode, if_neg (by omega)]
    have hn : 0 < s.fIn.length := by rw [rts_len] at hpos; exact Nat.lt_of_lt_of_le hpos (rec_len _)
    have hb1 := emod_lt' a1 (show (0 : Int) < (s.fIn.length : Int) by omega)
    obtain ⟨k, hk⟩ : ∃ k : Nat, a1 % (s.fIn.length : Int) = k := ⟨(a1 % (s.fIn.length : Int)).toNat, by omega⟩
    have hkl : k < s.fIn.length := by omega
    refine Tot.bindOf ((mod_eq a1 _ (by omega) (by omega)).trans (congrArg some hk)) (Tot.bindOf (copy_eq (by omega) (by omega)) ?_)
    simp only [Int.toNat_natCast]
    refine Tot.chk (by simp; omega) ?_
    unfold ext26_slices_Clone_R
    rw [List.take_length, List.take_length]
    have dl : (s.fIn.drop k).length ≤ 29 := by simp; omega
    have dl' : (s.fOut.drop k).length ≤ 29 := by simp; omega
    refine Tot.bind (Tot.chk (decide_eq_true (show (s.fIn.drop k).length ≤ 4294967296 by omega)) (Tot.some ?_))
    refine Tot.chk (by simp; omega) (Tot.chk (by simp [LIM]; omega) (Tot.chk (by simp; omega) ?_))
    refine Tot.bind (Tot.chk (decide_eq_true (show (s.fOut.drop k).length ≤ 4294967296 by omega)) (Tot.some ?_))
    refine Tot.chk (by simp; omega) (Tot.chk (by simp [LIM]; omega) ?_)
    have hrot := rot_used v (k := k) (by omega) 95
    refine Tot.bindOf ((used_eq _ (by simp; omega) 95).trans (congrArg some hrot)) ?_
    have hb2 := emod_lt' a2 (show (0 : Int) < (s.fIn.length : Int) by omega)
    obtain ⟨i, hi⟩ : ∃ i : Nat, a2 % (s.fIn.length : Int) = i := ⟨(a2 % (s.fIn.length : Int)).toNat, by omega⟩
    have hil : i < s.fIn.length := by omega
    refine Tot.bindOf ((mod_eq a2 _ (by omega) (by omega)).trans (congrArg some hi)) (Tot.bindOf (copy_eq2 (by omega) (by omega)) (Tot.bindIdx i rfl hil (Tot.bindIdx i rfl hil ?_)))
    refine Tot.jnR (fun m : List Int => ∃ _ : m.length = s.fIn.length, ∀ j (h : j < s.fIn.length) (h' : j < m.length), (s.fIn[j] = -1 ↔ m[j] = -1) ∧ s.fIn[j] ≤ m[j] ∧ bin m[j]) (fun j hj => ?_) (fun m hm => ?_)
    · refine Tot.ite (fun c => ?_) (fun _ => hj _ ⟨rfl, fun j h h' => ⟨Iff.rfl, Int.le_refl _, (v.all j h (by omega)).1⟩⟩)
      have hx : 0 ≤ s.fIn[i] := by simpa using c
      have hx2 := (v.all i hil (by omega)).1.2
      have hb3 := emod_lt' a3 (show (0 : Int) < 1099511627776 by omega)
      refine Tot.bindIdx i rfl hil (Tot.bindIdx i rfl hil (Tot.bindOf (mod_eq a3 _ (by omega) (by omega)) (Tot.bindIdx i rfl hil (Tot.bindIdx i rfl hil ?_))))
      rw [w64_id (by omega) (by omega), Int.toNat_natCast]
      refine hj _ ⟨by simp, fun j h h' => ?_⟩
      rw [List.getElem_set]
      have hmin : s.fIn[i] ≤ minI 1125899906842624 (s.fIn[i] + a3 % 1099511627776) ∧ minI 1125899906842624 (s.fIn[i] + a3 % 1099511627776) ≤ 1125899906842624 := by
        unfold minI; split <;> omega
      by_cases e : i = j
      · subst e
        rw [if_pos rfl]
        unfold bin
        omega
      · rw [if_neg e]
        exact ⟨Iff.rfl, Int.le_refl _, (v.all j h (by omega)).1⟩
    · obtain ⟨hml, hm⟩ := hm
      obtain ⟨u1, u2⟩ := used_mono v hml hm 95
      refine Tot.bindOf (used_eq _ (by simp only; omega) 95) (Tot.bindT (order_loop s v d _) ?_)
      rintro ⟨y1, y2, y3⟩ ⟨g1, g2, g3⟩
      simp only at g1 g2 g3 ⊢
      subst g1; subst g2; subst g3
      have lAB : (rts s.fOut s.fSeconds).length = (rts s.fIn s.fSeconds).length := by rw [rts_len, rts_len, v.recs]
      have hu : (PctF (rts s.fIn s.fSeconds) 95).1 ≤ (UsedF s 95).1 ∧ (PctF (rts s.fOut s.fSeconds) 95).1 ≤ (UsedF s 95).1 := by
        have hcc : (PctF (rts s.fIn s.fSeconds) 95).2 = 0 := Classical.byContradiction fun h => by
          unfold UsedF at hc0; rw [if_pos v, if_neg h] at hc0; exact h hc0
        unfold UsedF
        rw [if_pos v, if_pos hcc]
        simp only
        omega
      have f1 := few_above hpos (by omega) hu.1
      have f2 := few_above (l := rts s.fOut s.fSeconds) (by omega) (by omega) hu.2
      have q1 : (rts s.fIn s.fSeconds).countP (fun y => decide ((UsedF s 95).1 < y)) ≤ 29 := Nat.le_trans List.countP_le_length hlA
      have q2 : (rts s.fOut s.fSeconds).countP (fun y => decide ((UsedF s 95).1 < y)) ≤ 29 := Nat.le_trans List.countP_le_length (by omega)
      have hm1 := u2 hc0
      rw [w64_id (by omega) (by omega), w64_id (by omega) (by omega), w64_id (by omega) (by omega)]
      refine Tot.jn (Tot.ite (fun _ => Tot.bindOf awake_eq (Tot.some rfl)) (fun c => ?_))
      exfalso
      refine absurd ?_ (Bool.eq_false_iff.1 c)
      simp only [Bool.and_eq_true, beq_iff_eq, decide_eq_true_eq]
      refine ⟨⟨⟨⟨⟨hc0, u1.trans hc0⟩, trivial⟩, hm1⟩, by omega⟩, by omega⟩
end Go.Proofs.Ytgbfjigliajbkaa

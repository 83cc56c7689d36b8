/- Chapter 40, second part: valid series, what is used, merging, putting. -/
import Derived.Test.YtgbfjigliajbkaaPure
namespace Go.Proofs.Ytgbfjigliajbkaa
open Go Go.Vc

def bin (x : Int) : Prop := -1 ≤ x ∧ x ≤ 1125899906842624
instance (x : Int) : Decidable (bin x) := by unfold bin; infer_instance
def pr (x y : Int) : Prop := bin x ∧ bin y ∧ (x = -1 ↔ y = -1)
structure VOk (s : api_Series) : Prop where
  port : 1 ≤ s.fPort ∧ s.fPort ≤ 999
  sec : 1 ≤ s.fSeconds ∧ s.fSeconds ≤ 86400
  len : s.fIn.length = s.fOut.length
  most : s.fIn.length ≤ 9000
  all : ∀ i (h : i < s.fIn.length) (h' : i < s.fOut.length), pr s.fIn[i] s.fOut[i]

theorem bin_eq (x : Int) : percentile_bin x = some (decide (bin x)) := by
  unfold percentile_bin
  congr 1
  rw [Bool.eq_iff_iff, decide_eq_true_iff]
  unfold bin
  simp
theorem neqB {x y : Int} : ((x == (-1 : Int)) != (y == (-1 : Int))) = true ↔ ¬ (x = -1 ↔ y = -1) := by
  by_cases h : x = -1 <;> by_cases h' : y = -1 <;> simp [h, h', beq_eq_false_iff_ne.2]

theorem valid_eq (s : api_Series) (hl : s.fIn.length ≤ 1000000) : Tot (percentile_Valid s) (fun b => b = true ↔ VOk s) := by
  unfold percentile_Valid percentile_length
  refine Tot.jnR (fun m : Bool => m = true ↔ ¬ ((1 ≤ s.fPort ∧ s.fPort ≤ 999) ∧ (1 ≤ s.fSeconds ∧ s.fSeconds ≤ 86400) ∧ s.fIn.length = s.fOut.length ∧ s.fIn.length ≤ 9000)) (fun j hj => ?_) (fun m hm => ?_)
  · refine Tot.ite (fun h => hj _ (by simp at h ⊢; omega)) (fun h => Tot.bind (Tot.some (hj _ ?_)))
    simp only [Bool.or_eq_false_iff, decide_eq_false_iff_not] at h
    simp only [Bool.or_eq_true, Bool.not_eq_true', Bool.and_eq_false_iff, decide_eq_false_iff_not, decide_eq_true_eq, bne_iff_ne]
    omega
  · refine Tot.ite (fun h => Tot.some ⟨fun e => (by cases e), fun v => absurd ⟨v.port, v.sec, v.len, v.most⟩ (hm.1 h)⟩) (fun h => ?_)
    obtain ⟨h1, h2, h3, h4⟩ := Classical.byContradiction fun hc => by rw [hm.2 hc] at h; cases h
    refine Tot.bindLoop (fun st : Int => ∃ k : Nat, st = k ∧ k ≤ s.fIn.length ∧ ∀ i, i < k → ∀ (h : i < s.fIn.length) (h' : i < s.fOut.length), pr s.fIn[i] s.fOut[i]) (fun st => s.fIn.length - st.toNat) (fun x => match x with | .inl _ => ¬ VOk s | .inr _ => VOk s) ⟨0, rfl, Nat.zero_le _, fun i hi => by omega⟩ ?_ ?_
    · rintro st ⟨k, rfl, hk, ha⟩
      unfold percentile_Valid_L0
      refine Tot.ite (fun h => ?_) (fun h => ?_)
      · have hlt : k < s.fIn.length := by simpa using h
        have hlt' : k < s.fOut.length := by omega
        have hw := cast_succ_w hlt (by omega)
        refine Tot.jnR (fun m : Bool => m = true ↔ ¬ pr s.fIn[k] s.fOut[k]) (fun j hj => ?_) (fun m hm => ?_)
        · refine Tot.bindIdx k rfl hlt (Tot.bindOf (bin_eq _) (Tot.ite (fun c => hj _ ?_) (fun c => ?_)))
          · have : ¬ bin s.fIn[k] := by simpa using c
            exact ⟨fun _ hp => this hp.1, fun _ => rfl⟩
          · have c1 : bin s.fIn[k] := by simpa using c
            refine Tot.bindIdx k rfl hlt' (Tot.bindOf (bin_eq _) (Tot.ite (fun c => hj _ ?_) (fun c => ?_)))
            · have : ¬ bin s.fOut[k] := by simpa using c
              exact ⟨fun _ hp => this hp.2.1, fun _ => rfl⟩
            · have c2 : bin s.fOut[k] := by simpa using c
              refine Tot.bindIdx k rfl hlt (Tot.bindIdx k rfl hlt' (hj _ (neqB.trans ?_)))
              exact not_congr ⟨fun h => ⟨c1, c2, h⟩, fun h => h.2.2⟩
        · refine Tot.ite (fun c => Tot.out fun v => hm.1 c (v.all k hlt hlt')) (fun c => ?_)
          have hp : pr s.fIn[k] s.fOut[k] := Classical.byContradiction fun hc => by rw [hm.2 hc] at c; cases c
          refine Tot.next ⟨k + 1, hw, hlt, fun i hi h h' => ?_⟩ (by simp only [hw, Int.toNat_natCast]; omega)
          by_cases e : i = k
          · subst e; exact hp
          · exact ha i (by omega) h h'
      · have : k = s.fIn.length := by simp at h; omega
        exact Tot.out ⟨h1, h2, h3, h4, fun i h h' => ha i (by omega) h h'⟩
    · intro x hx
      cases x with
      | inl _ => exact Tot.some ⟨fun e => (by cases e), fun v => absurd v hx⟩
      | inr _ => exact Tot.some ⟨fun _ => hx, fun _ => rfl⟩
theorem valid_ref (s : api_Series) (hl : s.fIn.length ≤ 1000000) : Tot (exchangepointref40_Valid s) (fun b => b = true ↔ VOk s) := by
  unfold exchangepointref40_Valid
  refine Tot.ite (fun h => Tot.some ⟨fun e => (by cases e), fun v => ?_⟩) (fun h => ?_)
  · have h1 := v.port; have h2 := v.sec; have h3 := v.len; have h4 := v.most
    simp at h
    omega
  · have hh : (1 ≤ s.fPort ∧ s.fPort ≤ 999) ∧ (1 ≤ s.fSeconds ∧ s.fSeconds ≤ 86400) ∧ s.fIn.length = s.fOut.length ∧ s.fIn.length ≤ 9000 := by
      simp only [Bool.or_eq_false_iff, decide_eq_false_iff_not, bne_eq_false_iff_eq] at h
      omega
    obtain ⟨h1, h2, h3, h4⟩ := hh
    refine Tot.bindLoop (fun st : Int => ∃ k : Nat, st = k ∧ k ≤ s.fIn.length ∧ ∀ i, i < k → ∀ (h : i < s.fIn.length) (h' : i < s.fOut.length), pr s.fIn[i] s.fOut[i]) (fun st => s.fIn.length - st.toNat) (fun x => match x with | .inl _ => ¬ VOk s | .inr _ => VOk s) ⟨0, rfl, Nat.zero_le _, fun i hi => by omega⟩ ?_ ?_
    · rintro st ⟨k, rfl, hk, ha⟩
      unfold exchangepointref40_Valid_L0
      refine Tot.ite (fun h => ?_) (fun h => ?_)
      · have hlt : k < s.fIn.length := by simpa using h
        have hlt' : k < s.fOut.length := by omega
        have hw := cast_succ_w hlt (by omega)
        refine Tot.bindIdx k rfl hlt (Tot.bindIdx k rfl hlt' (Tot.ite (fun c => ?_) (fun c => ?_)))
        · refine Tot.out fun v => ?_
          have hp := v.all k hlt hlt'
          have hn : ((s.fIn[k] == (-1 : Int)) != (s.fOut[k] == (-1 : Int))) = false := Bool.eq_false_iff.2 fun hc => neqB.1 hc hp.2.2
          unfold pr bin at hp
          rw [hn] at c
          simp only [Bool.or_eq_true, decide_eq_true_eq, Bool.false_eq_true, or_false] at c
          omega
        · simp only [Bool.or_eq_false_iff, decide_eq_false_iff_not] at c
          have hp : pr s.fIn[k] s.fOut[k] := by
            refine ⟨⟨by omega, by omega⟩, ⟨by omega, by omega⟩, Classical.byContradiction fun hc => ?_⟩
            rw [neqB.2 hc] at c
            cases c.2
          refine Tot.next ⟨k + 1, hw, hlt, fun i hi h h' => ?_⟩ (by simp only [hw, Int.toNat_natCast]; omega)
          by_cases e : i = k
          · subst e; exact hp
          · exact ha i (by omega) h h'
      · have : k = s.fIn.length := by simp at h; omega
        exact Tot.out ⟨h1, h2, h3, h4, fun i h h' => ha i (by omega) h h'⟩
    · intro x hx
      cases x with
      | inl _ => exact Tot.some ⟨fun e => (by cases e), fun v => absurd v hx⟩
      | inr _ => exact Tot.some ⟨fun _ => hx, fun _ => rfl⟩

-- what is used

theorem VOk.goodIn {s : api_Series} (v : VOk s) : ∀ x ∈ s.fIn, good x := fun x hx => by
  obtain ⟨i, hi, rfl⟩ := List.getElem_of_mem hx
  have := (v.all i hi (by have := v.len; omega)).1
  unfold bin at this; unfold good; omega
theorem VOk.goodOut {s : api_Series} (v : VOk s) : ∀ x ∈ s.fOut, good x := fun x hx => by
  obtain ⟨i, hi, rfl⟩ := List.getElem_of_mem hx
  have := (v.all i (by have := v.len; omega) hi).2.1
  unfold bin at this; unfold good; omega
theorem rec_same : ∀ {l m : List Int}, l.length = m.length → (∀ i (h : i < l.length) (h' : i < m.length), l[i] = -1 ↔ m[i] = -1) → (rec' l).length = (rec' m).length
  | [], [], _, _ => rfl
  | x :: l, y :: m, hl, hp => by
    have ih := rec_same (l := l) (m := m) (by simpa using hl) (fun i h h' => by have := hp (i + 1) (by simp; omega) (by simp; omega); simpa using this)
    have h0 := hp 0 (by simp) (by simp)
    simp only [List.getElem_cons_zero] at h0
    unfold rec' at *
    by_cases h : x = -1
    · simp [h, h0.1 h, ih]
    · have h' : y ≠ -1 := fun e => h (h0.2 e)
      simp [h, h', ih]
  | [], _ :: _, h, _ => by simp at h
  | _ :: _, [], h, _ => by simp at h
theorem VOk.recs {s : api_Series} (v : VOk s) : (rec' s.fIn).length = (rec' s.fOut).length := rec_same v.len fun i h h' => (v.all i h h').2.2
noncomputable def rts (l : List Int) (s : Int) : List Int := (rec' l).map (fun b => rt b s)
theorem VOk.ratesIn {s : api_Series} (v : VOk s) : RatesF s.fIn s.fSeconds = (rts s.fIn s.fSeconds, 0) := by
  unfold RatesF rts; rw [if_pos v.sec, if_pos v.goodIn]
theorem VOk.ratesOut {s : api_Series} (v : VOk s) : RatesF s.fOut s.fSeconds = (rts s.fOut s.fSeconds, 0) := by
  unfold RatesF rts; rw [if_pos v.sec, if_pos v.goodOut]
theorem rts_len (l : List Int) (s : Int) : (rts l s).length = (rec' l).length := by unfold rts; rw [List.length_map]
theorem rts_nonneg {l : List Int} {s : Int} (hs : 1 ≤ s ∧ s ≤ 86400) (hg : ∀ x ∈ l, good x) : ∀ x ∈ rts l s, 0 ≤ x := fun x hx => by
  unfold rts rec' at hx
  obtain ⟨b, hb, rfl⟩ := List.mem_map.1 hx
  obtain ⟨h1, h2⟩ := List.mem_filter.1 hb
  rcases hg b h1 with h | h
  · simp [h] at h2
  · exact (rt_bounds ⟨h.1, h.2, hs⟩).1
open Classical in
noncomputable def UsedF (s : api_Series) (p : Int) : Int × Int :=
  if VOk s then (if (PctF (rts s.fIn s.fSeconds) p).2 = 0 then (max (PctF (rts s.fIn s.fSeconds) p).1 (PctF (rts s.fOut s.fSeconds) p).1, 0) else (0, (PctF (rts s.fIn s.fSeconds) p).2)) else (0, 1)
theorem pct_code {l m : List Int} (h : l.length = m.length) (p : Int) : (PctF l p).2 = (PctF m p).2 := by
  unfold PctF; rw [h]; split
  · split <;> rfl
  · rfl
theorem pct_nonneg {l : List Int} (h : ∀ x ∈ l, 0 ≤ x) (p : Int) : 0 ≤ (PctF l p).1 := by
  unfold PctF
  split
  · split
    · exact Int.le_refl _
    · show 0 ≤ ((srt l)[rk l.length p]?).getD 0
      cases hg : (srt l)[rk l.length p]? with
      | none => exact Int.le_refl _
      | some x => exact h x ((srt_perm l).mem_iff.1 (List.mem_of_getElem? hg))
  · exact Int.le_refl _
theorem maxI_eq (a b : Int) : maxI a b = max a b := by
  unfold maxI
  split
  · rw [Int.max_eq_right (by omega)]
  · rw [Int.max_eq_left (by omega)]

theorem used_ref (s : api_Series) (hl : s.fIn.length ≤ 1000000) (p : Int) : exchangepointref40_Used s p = some (UsedF s p) := by
  refine Tot.eq ?_
  unfold exchangepointref40_Used UsedF
  refine Tot.bindT (valid_ref s hl) fun b hb => ?_
  refine Tot.ite (fun h => ?_) (fun h => ?_)
  · have : ¬ VOk s := fun v => by rw [hb.2 v] at h; cases h
    rw [if_neg this]; exact Tot.some rfl
  · have v : VOk s := hb.1 (by simpa using h)
    rw [if_pos v]
    have l1 := v.len; have l2 := v.most
    refine Tot.bindOf (rates_ref _ (by omega) _) (Tot.bindOf (rates_ref _ (by omega) _) ?_)
    rw [v.ratesIn, v.ratesOut]
    have b1 : (rts s.fIn s.fSeconds).length ≤ 1000000 := by rw [rts_len]; exact Nat.le_trans (rec_len _) (by omega)
    have b2 : (rts s.fOut s.fSeconds).length ≤ 1000000 := by rw [rts_len]; exact Nat.le_trans (rec_len _) (by omega)
    refine Tot.bindOf (pct_ref _ b1 _) (Tot.ite (fun c => ?_) (fun c => ?_))
    · rw [if_neg (by simpa using c)]; exact Tot.some rfl
    · rw [if_pos (by simpa using c)]
      exact Tot.bindOf (pct_ref _ b2 _) (Tot.some (by rw [maxI_eq]))
theorem used_eq (s : api_Series) (hl : s.fIn.length ≤ 1000000) (p : Int) : percentile_Used s p = some (UsedF s p) := by
  refine Tot.eq ?_
  unfold percentile_Used UsedF
  refine Tot.bindT (valid_eq s hl) fun b hb => ?_
  refine Tot.ite (fun h => ?_) (fun h => ?_)
  · have : ¬ VOk s := fun v => by rw [hb.2 v] at h; cases h
    rw [if_neg this]; exact Tot.some rfl
  · have v : VOk s := hb.1 (by simpa using h)
    rw [if_pos v]
    have l1 := v.len; have l2 := v.most
    have b1 : (rts s.fIn s.fSeconds).length ≤ 1000000 := by rw [rts_len]; exact Nat.le_trans (rec_len _) (by omega)
    have b2 : (rts s.fOut s.fSeconds).length ≤ 1000000 := by rw [rts_len]; exact Nat.le_trans (rec_len _) (by omega)
    have n1 := pct_nonneg (rts_nonneg v.sec v.goodIn) p
    have hc := pct_code (l := rts s.fIn s.fSeconds) (m := rts s.fOut s.fSeconds) (by rw [rts_len, rts_len, v.recs]) p
    generalize hA : PctF (rts s.fIn s.fSeconds) p = A at n1 hc
    generalize hB : PctF (rts s.fOut s.fSeconds) p = Bq at hc
    refine Tot.bindLoop (fun st : Int × Int => (st.2 = 0 ∧ st.1 = 0) ∨ (st.2 = 1 ∧ A.2 = 0 ∧ st.1 = A.1) ∨ (st.2 = 2 ∧ A.2 = 0 ∧ st.1 = max A.1 Bq.1)) (fun st => 3 - st.2.toNat)
      (fun x => match x with | .inl e => A.2 ≠ 0 ∧ e = A.2 | .inr m => A.2 = 0 ∧ m = max A.1 Bq.1) (.inl ⟨rfl, rfl⟩) ?_ ?_
    · rintro ⟨m, i⟩ hI
      simp only at hI
      unfold percentile_Used_L0
      simp only
      rcases hI with ⟨rfl, rfl⟩ | ⟨rfl, h1, rfl⟩ | ⟨rfl, h1, rfl⟩
      · refine Tot.ite (fun _ => ?_) (fun c => by simp at c)
        refine Tot.bindIdx 0 rfl (by simp) ?_
        simp only [List.getElem_cons_zero]
        refine Tot.bindOf (rates_eq _ (by omega) _) ?_
        rw [v.ratesIn]
        refine Tot.ite (fun c => by simp at c) (fun _ => Tot.bindOf (pct_eq _ b1 _) ?_)
        simp only [hA]
        refine Tot.ite (fun c => Tot.out ⟨by simpa using c, rfl⟩) (fun c => Tot.next (.inr (.inl ⟨by rw [w64_id (by omega) (by omega)]; rfl, by simpa using c, ?_⟩)) (by rw [w64_id (by omega) (by omega)]; simp only; omega))
        rw [maxI_eq, Int.max_eq_right n1]
      · refine Tot.ite (fun _ => ?_) (fun c => by simp at c)
        refine Tot.bindIdx 1 rfl (by simp) ?_
        simp only [List.getElem_cons_succ, List.getElem_cons_zero]
        refine Tot.bindOf (rates_eq _ (by omega) _) ?_
        rw [v.ratesOut]
        refine Tot.ite (fun c => by simp at c) (fun _ => Tot.bindOf (pct_eq _ b2 _) ?_)
        simp only [hB]
        refine Tot.ite (fun c => ?_) (fun c => Tot.next (.inr (.inr ⟨by rw [w64_id (by omega) (by omega)]; rfl, h1, maxI_eq _ _⟩)) (by rw [w64_id (by omega) (by omega)]; simp only; omega))
        exfalso
        rw [← hc, h1] at c
        simp at c
      · refine Tot.ite (fun c => by simp at c) (fun _ => Tot.out ⟨h1, rfl⟩)
    · intro x hx
      cases x with
      | inl e => obtain ⟨h1, rfl⟩ := hx; rw [if_neg h1]; exact Tot.some rfl
      | inr m => obtain ⟨h1, rfl⟩ := hx; rw [if_pos h1]; exact Tot.some rfl

-- copies

theorem copy_eq {s : api_Series} (h1 : s.fIn.length ≤ 1000000) (h2 : s.fOut.length ≤ 1000000) : exchangepointref40_Copy s = some s := by
  refine Tot.eq ?_
  unfold exchangepointref40_Copy
  exact Tot.chk (decide_eq_true (show s.fIn.length ≤ 4294967296 by omega)) (Tot.chk (decide_eq_true (show s.fOut.length ≤ 4294967296 by omega)) (Tot.some rfl))
theorem copy_eq2 {s : api_Series} (h1 : s.fIn.length ≤ 1000000) (h2 : s.fOut.length ≤ 1000000) : exchangepointref40_Copy_2 s = some s := copy_eq h1 h2
theorem copy_eq3 {s : api_Series} (h1 : s.fIn.length ≤ 1000000) (h2 : s.fOut.length ≤ 1000000) : exchangepointref40_Copy_3 s = some s := copy_eq h1 h2
theorem clone_eq3 {s : api_Series} (h1 : s.fIn.length ≤ 1000000) (h2 : s.fOut.length ≤ 1000000) : clone_Series_3 s = some s := by
  refine Tot.eq ?_
  unfold clone_Series_3 clone_List_2
  refine Tot.bind (Tot.chk (decide_eq_true (show s.fIn.length ≤ 4294967296 by omega)) (Tot.some ?_))
  exact Tot.bind (Tot.chk (decide_eq_true (show s.fOut.length ≤ 4294967296 by omega)) (Tot.some (Tot.some rfl)))

-- merging

abbrev zs : api_Series := ⟨0, 0, [], []⟩
def differ (a b : api_Series) : Prop := a.fPort ≠ b.fPort ∨ a.fSeconds ≠ b.fSeconds ∨ a.fIn.length ≠ b.fIn.length
def confl (a b : api_Series) : Prop := ∃ i, ∃ (h : i < a.fIn.length) (h' : i < b.fIn.length) (g : i < a.fOut.length) (g' : i < b.fOut.length), b.fIn[i] ≠ -1 ∧ a.fIn[i] ≠ -1 ∧ (a.fIn[i] ≠ b.fIn[i] ∨ a.fOut[i] ≠ b.fOut[i])
def sel (a b : api_Series) (x y : List Int) (t : Nat) : Option Int := if a.fIn[t]? = some (-1) ∧ b.fIn[t]? ≠ some (-1) then y[t]? else x[t]?
def MergeR (a b : api_Series) (r : api_Series × Int) : Prop :=
  (¬ (VOk a ∧ VOk b) ∧ r = (zs, 1)) ∨ (VOk a ∧ VOk b ∧ differ a b ∧ r = (zs, 7)) ∨ (VOk a ∧ VOk b ∧ ¬ differ a b ∧ confl a b ∧ r = (zs, 8)) ∨
  (VOk a ∧ VOk b ∧ ¬ differ a b ∧ ¬ confl a b ∧ ∃ ci co, (∀ t, ci[t]? = sel a b a.fIn b.fIn t) ∧ (∀ t, co[t]? = sel a b a.fOut b.fOut t) ∧ r = (⟨a.fPort, a.fSeconds, ci, co⟩, 0))
theorem MergeR.det {a b : api_Series} {r r' : api_Series × Int} (h : MergeR a b r) (k : MergeR a b r') : r = r' := by
  rcases h with ⟨h1, rfl⟩ | ⟨h1, h2, h3, rfl⟩ | ⟨h1, h2, h3, h4, rfl⟩ | ⟨h1, h2, h3, h4, ci, co, h5, h6, rfl⟩ <;> rcases k with ⟨k1, rfl⟩ | ⟨k1, k2, k3, rfl⟩ | ⟨k1, k2, k3, k4, rfl⟩ | ⟨k1, k2, k3, k4, ci', co', k5, k6, rfl⟩ <;>
    first
      | rfl
      | exact absurd ⟨k1, k2⟩ h1
      | exact absurd ⟨h1, h2⟩ k1
      | exact absurd h3 k3
      | exact absurd k3 h3
      | exact absurd h4 k4
      | exact absurd k4 h4
      | (rw [show ci = ci' from List.ext_getElem? fun t => (h5 t).trans (k5 t).symm, show co = co' from List.ext_getElem? fun t => (h6 t).trans (k6 t).symm])
theorem sel_len {a b : api_Series} {x y c : List Int} (hxy : x.length = y.length) (h : ∀ t, c[t]? = sel a b x y t) : c.length = x.length := by
  have key : ∀ t, c[t]? = none ↔ x[t]? = none := fun t => by
    rw [h t]
    unfold sel
    split
    · rw [List.getElem?_eq_none_iff, List.getElem?_eq_none_iff, hxy]
    · rfl
  have k1 := key c.length
  have k2 := key x.length
  rw [List.getElem?_eq_none_iff, List.getElem?_eq_none_iff] at k1 k2
  omega
theorem MergeR.small {a b : api_Series} {r : api_Series × Int} (h : MergeR a b r) : r.1.fIn.length ≤ 9000 ∧ r.1.fOut.length ≤ 9000 := by
  rcases h with ⟨h1, rfl⟩ | ⟨h1, h2, h3, rfl⟩ | ⟨h1, h2, h3, h4, rfl⟩ | ⟨h1, h2, h3, h4, ci, co, h5, h6, rfl⟩
  · simp
  · simp
  · simp
  · have m := h1.most; have l := h1.len; have l' := h2.len
    have hd : a.fIn.length = b.fIn.length := Classical.byContradiction fun hc => h3 (.inr (.inr hc))
    have e1 := sel_len hd h5
    have e2 := sel_len (show a.fOut.length = b.fOut.length by omega) h6
    simp only
    omega

/-- what a merge has done up to place k -/
def MI (a b : api_Series) (k : Nat) (x y c : List Int) : Prop := c.length = x.length ∧ ∀ t, c[t]? = if t < k then sel a b x y t else x[t]?
theorem MI.zero (a b : api_Series) (x y : List Int) : MI a b 0 x y x := ⟨rfl, fun t => by rw [if_neg (by omega)]⟩
theorem MI.skip {a b : api_Series} {k : Nat} {x y c : List Int} (h : MI a b k x y c) (hs : ¬ (a.fIn[k]? = some (-1) ∧ b.fIn[k]? ≠ some (-1))) : MI a b (k + 1) x y c := by
  refine ⟨h.1, fun t => ?_⟩
  rw [h.2 t]
  by_cases e : t = k
  · subst e
    rw [if_neg (by omega), if_pos (by omega)]
    unfold sel
    rw [if_neg hs]
  · by_cases h1 : t < k
    · rw [if_pos h1, if_pos (by omega)]
    · rw [if_neg h1, if_neg (by omega)]
theorem MI.take {a b : api_Series} {k : Nat} {x y c : List Int} {v : Int} (h : MI a b k x y c) (hs : a.fIn[k]? = some (-1) ∧ b.fIn[k]? ≠ some (-1)) (hk : k < x.length) (hv : y[k]? = some v) : MI a b (k + 1) x y (c.set k v) := by
  refine ⟨by rw [List.length_set]; exact h.1, fun t => ?_⟩
  by_cases e : t = k
  · subst e
    rw [if_pos (by omega), List.getElem?_set_self (by rw [h.1]; exact hk)]
    unfold sel
    rw [if_pos hs, hv]
  · rw [List.getElem?_set_ne (Ne.symm e), h.2 t]
    by_cases h1 : t < k
    · rw [if_pos h1, if_pos (by omega)]
    · rw [if_neg h1, if_neg (by omega)]
theorem MI.done {a b : api_Series} {k : Nat} {x y c : List Int} (h : MI a b k x y c) (hk : k = x.length) (hxy : x.length = y.length) : ∀ t, c[t]? = sel a b x y t := fun t => by
  rw [h.2 t]
  by_cases ht : t < k
  · rw [if_pos ht]
  · rw [if_neg ht]
    unfold sel
    split
    · rw [List.getElem?_eq_none (by omega), List.getElem?_eq_none (by omega)]
    · rfl

theorem merge_eq (a b : api_Series) (ha : a.fIn.length ≤ 1000000) (hb : b.fIn.length ≤ 1000000) : Tot (percentile_Merge a b) (MergeR a b) := by
  unfold percentile_Merge
  refine Tot.jn ?_
  refine Tot.bindT (valid_eq a ha) fun r1 h1 => ?_
  have bad : ¬ (VOk a ∧ VOk b) → Tot (some (zs, (1 : Int))) (MergeR a b) := fun h => Tot.some (.inl ⟨h, rfl⟩)
  refine Tot.ite (fun c1 => ?_) (fun c1 => ?_)
  · refine Tot.ite (fun _ => bad fun h => ?_) (fun c => by cases c)
    rw [h1.2 h.1] at c1; cases c1
  have va : VOk a := h1.1 (by simpa using c1)
  refine Tot.bindT (valid_eq b hb) fun r2 h2 => ?_
  refine Tot.ite (fun c2 => bad fun h => ?_) (fun c2 => ?_)
  · rw [h2.2 h.2] at c2; cases c2
  have vb : VOk b := h2.1 (by simpa using c2)
  refine Tot.ite (fun c3 => Tot.some (.inr (.inl ⟨va, vb, ?_, rfl⟩))) (fun c3 => ?_)
  · simp only [Bool.or_eq_true, bne_iff_ne] at c3
    unfold differ
    omega
  have hd : ¬ differ a b := fun hd => by
    unfold differ at hd
    simp only [Bool.or_eq_false_iff, bne_eq_false_iff_eq] at c3
    omega
  have el : a.fIn.length = b.fIn.length := Classical.byContradiction fun hc => hd (.inr (.inr hc))
  have la := va.len; have lb := vb.len; have ma := va.most
  refine Tot.bindOf (clone_eq3 ha (by omega)) ?_
  refine Tot.bindLoop (fun s : Int × List Int × List Int => ∃ k : Nat, s.1 = k ∧ k ≤ a.fIn.length ∧ MI a b k a.fOut b.fOut s.2.1 ∧ MI a b k a.fIn b.fIn s.2.2 ∧ ∀ i, i < k → ∀ (h : i < a.fIn.length) (h' : i < b.fIn.length) (g : i < a.fOut.length) (g' : i < b.fOut.length), ¬ (b.fIn[i] ≠ -1 ∧ a.fIn[i] ≠ -1 ∧ (a.fIn[i] ≠ b.fIn[i] ∨ a.fOut[i] ≠ b.fOut[i])))
    (fun s => a.fIn.length - s.1.toNat) (fun x => match x with | .inl _ => confl a b | .inr p => ¬ confl a b ∧ (∀ t, p.2[t]? = sel a b a.fIn b.fIn t) ∧ (∀ t, p.1[t]? = sel a b a.fOut b.fOut t))
    ⟨0, rfl, Nat.zero_le _, MI.zero .., MI.zero .., fun i hi => by omega⟩ ?_ ?_
  · rintro ⟨s1, co, ci⟩ ⟨k, e, hk, ho, hi, hn⟩
    simp only at e ho hi
    subst e
    unfold percentile_Merge_L0
    simp only
    refine Tot.ite (fun h => ?_) (fun h => ?_)
    · have kb : k < b.fIn.length := by simpa using h
      have ka : k < a.fIn.length := by omega
      have kao : k < a.fOut.length := by omega
      have kbo : k < b.fOut.length := by omega
      have hw := cast_succ_w kb (by omega)
      have kci : k < ci.length := by rw [hi.1]; exact ka
      have kco : k < co.length := by rw [ho.1]; exact kao
      have eci : ci[k] = a.fIn[k] := by
        have := hi.2 k
        rw [if_neg (by omega), List.getElem?_eq_getElem kci, List.getElem?_eq_getElem ka] at this
        exact Option.some.inj this
      have eco : co[k] = a.fOut[k] := by
        have := ho.2 k
        rw [if_neg (by omega), List.getElem?_eq_getElem kco, List.getElem?_eq_getElem kao] at this
        exact Option.some.inj this
      have nxt : (¬ (b.fIn[k] ≠ -1 ∧ a.fIn[k] ≠ -1 ∧ (a.fIn[k] ≠ b.fIn[k] ∨ a.fOut[k] ≠ b.fOut[k]))) → ∀ i, i < k + 1 → ∀ (h : i < a.fIn.length) (h' : i < b.fIn.length) (g : i < a.fOut.length) (g' : i < b.fOut.length), ¬ (b.fIn[i] ≠ -1 ∧ a.fIn[i] ≠ -1 ∧ (a.fIn[i] ≠ b.fIn[i] ∨ a.fOut[i] ≠ b.fOut[i])) := fun hk i hi h h' g g' => by
        by_cases e : i = k
        · subst e; exact hk
        · exact hn i (by omega) h h' g g'
      refine Tot.bindIdx k rfl kb ?_
      refine Tot.jnR (fun m : List Int × List Int => MI a b (k + 1) a.fOut b.fOut m.1 ∧ MI a b (k + 1) a.fIn b.fIn m.2 ∧ ¬ (b.fIn[k] ≠ -1 ∧ a.fIn[k] ≠ -1 ∧ (a.fIn[k] ≠ b.fIn[k] ∨ a.fOut[k] ≠ b.fOut[k]))) (fun j hj => ?_) (fun m hm => ?_)
      · refine Tot.ite (fun c => ?_) (fun c => ?_)
        · have hc : b.fIn[k] = -1 := by simpa using c
          have hs : ¬ (a.fIn[k]? = some (-1) ∧ b.fIn[k]? ≠ some (-1)) := fun h => h.2 (by rw [List.getElem?_eq_getElem kb, hc])
          exact hj _ ⟨ho.skip hs, hi.skip hs, fun h => h.1 hc⟩
        · have hc : b.fIn[k] ≠ -1 := by simpa using c
          refine Tot.bindIdx k rfl kci (Tot.bindIdx k rfl kci (Tot.ite (fun c2 => ?_) (fun c2 => ?_)))
          · have hc2 : a.fIn[k] = -1 := by rw [← eci]; simpa using c2
            have hs : a.fIn[k]? = some (-1) ∧ b.fIn[k]? ≠ some (-1) := ⟨by rw [List.getElem?_eq_getElem ka, hc2], fun h => hc (by rw [List.getElem?_eq_getElem kb] at h; exact Option.some.inj h)⟩
            refine Tot.bindIdx k rfl kb (Tot.bindIdx k rfl kbo (Tot.bindIdx k rfl kci (Tot.bindIdx k rfl kci (Tot.bindIdx k rfl kco (Tot.bindIdx k rfl kco (hj _ ?_))))))
            simp only [Int.toNat_natCast]
            exact ⟨ho.take hs kao (List.getElem?_eq_getElem kbo), hi.take hs ka (List.getElem?_eq_getElem kb), fun h => h.2.1 hc2⟩
          · have hc2 : a.fIn[k] ≠ -1 := by rw [← eci]; simpa using c2
            refine Tot.jnR (fun m : Bool => m = true ↔ (a.fIn[k] ≠ b.fIn[k] ∨ a.fOut[k] ≠ b.fOut[k])) (fun j2 hj2 => ?_) (fun m hm => ?_)
            · refine Tot.bindIdx k rfl kci (Tot.bindIdx k rfl kci (Tot.bindIdx k rfl kb (Tot.ite (fun c3 => hj2 _ ?_) (fun c3 => ?_))))
              · rw [eci] at c3
                exact ⟨fun _ => .inl (by simpa using c3), fun _ => rfl⟩
              · rw [eci] at c3
                refine Tot.bindIdx k rfl kco (Tot.bindIdx k rfl kco (Tot.bindIdx k rfl kbo (hj2 _ ?_)))
                rw [eco, bne_iff_ne]
                have : a.fIn[k] = b.fIn[k] := by simpa using c3
                simp [this]
            · refine Tot.ite (fun c3 => Tot.out ⟨k, ka, kb, kao, kbo, hc, hc2, hm.1 c3⟩) (fun c3 => hj _ ?_)
              have hs : ¬ (a.fIn[k]? = some (-1) ∧ b.fIn[k]? ≠ some (-1)) := fun h => hc2 (by have := h.1; rw [List.getElem?_eq_getElem ka] at this; exact Option.some.inj this)
              exact ⟨ho.skip hs, hi.skip hs, fun h => by rw [hm.2 h.2.2] at c3; cases c3⟩
      · exact Tot.next ⟨k + 1, hw, by omega, hm.1, hm.2.1, nxt hm.2.2⟩ (by simp only [hw, Int.toNat_natCast]; omega)
    · have : k = a.fIn.length := by simp at h; omega
      refine Tot.out ⟨?_, hi.done this el, ho.done (by omega) (by omega)⟩
      rintro ⟨i, h1, h2, h3, h4, h5⟩
      exact hn i (by omega) h1 h2 h3 h4 h5
  · intro x hx
    cases x with
    | inl _ => exact Tot.some (.inr (.inr (.inl ⟨va, vb, hd, hx, rfl⟩)))
    | inr p => exact Tot.some (.inr (.inr (.inr ⟨va, vb, hd, hx.1, _, _, hx.2.1, hx.2.2, rfl⟩)))

theorem merge_ref (a b : api_Series) (ha : a.fIn.length ≤ 1000000) (hb : b.fIn.length ≤ 1000000) : Tot (exchangepointref40_Merge a b) (MergeR a b) := by
  unfold exchangepointref40_Merge
  refine Tot.jn ?_
  refine Tot.bindT (valid_ref a ha) fun r1 h1 => ?_
  have bad : ¬ (VOk a ∧ VOk b) → Tot (some (zs, (1 : Int))) (MergeR a b) := fun h => Tot.some (.inl ⟨h, rfl⟩)
  refine Tot.ite (fun c1 => ?_) (fun c1 => ?_)
  · refine Tot.ite (fun _ => bad fun h => ?_) (fun c => by cases c)
    rw [h1.2 h.1] at c1; cases c1
  have va : VOk a := h1.1 (by simpa using c1)
  refine Tot.bindT (valid_ref b hb) fun r2 h2 => ?_
  refine Tot.ite (fun c2 => bad fun h => ?_) (fun c2 => ?_)
  · rw [h2.2 h.2] at c2; cases c2
  have vb : VOk b := h2.1 (by simpa using c2)
  refine Tot.ite (fun c3 => Tot.some (.inr (.inl ⟨va, vb, ?_, rfl⟩))) (fun c3 => ?_)
  · simp only [Bool.or_eq_true, bne_iff_ne] at c3
    unfold differ
    omega
  have hd : ¬ differ a b := fun hd => by
    unfold differ at hd
    simp only [Bool.or_eq_false_iff, bne_eq_false_iff_eq] at c3
    omega
  have el : a.fIn.length = b.fIn.length := Classical.byContradiction fun hc => hd (.inr (.inr hc))
  have la := va.len; have lb := vb.len; have ma := va.most
  refine Tot.bindOf (copy_eq3 ha (by omega)) ?_
  refine Tot.bindLoop (fun s : Int × List Int × List Int => ∃ k : Nat, s.1 = k ∧ k ≤ a.fIn.length ∧ MI a b k a.fOut b.fOut s.2.1 ∧ MI a b k a.fIn b.fIn s.2.2 ∧ ∀ i, i < k → ∀ (h : i < a.fIn.length) (h' : i < b.fIn.length) (g : i < a.fOut.length) (g' : i < b.fOut.length), ¬ (b.fIn[i] ≠ -1 ∧ a.fIn[i] ≠ -1 ∧ (a.fIn[i] ≠ b.fIn[i] ∨ a.fOut[i] ≠ b.fOut[i])))
    (fun s => a.fIn.length - s.1.toNat) (fun x => match x with | .inl _ => confl a b | .inr p => ¬ confl a b ∧ (∀ t, p.2[t]? = sel a b a.fIn b.fIn t) ∧ (∀ t, p.1[t]? = sel a b a.fOut b.fOut t))
    ⟨0, rfl, Nat.zero_le _, MI.zero .., MI.zero .., fun i hi => by omega⟩ ?_ ?_
  · rintro ⟨s1, co, ci⟩ ⟨k, e, hk, ho, hi, hn⟩
    simp only at e ho hi
    subst e
    unfold exchangepointref40_Merge_L0
    simp only
    refine Tot.ite (fun h => ?_) (fun h => ?_)
    · have kb : k < b.fIn.length := by simpa using h
      have ka : k < a.fIn.length := by omega
      have kao : k < a.fOut.length := by omega
      have kbo : k < b.fOut.length := by omega
      have hw := cast_succ_w kb (by omega)
      have kci : k < ci.length := by rw [hi.1]; exact ka
      have kco : k < co.length := by rw [ho.1]; exact kao
      have nxt : (¬ (b.fIn[k] ≠ -1 ∧ a.fIn[k] ≠ -1 ∧ (a.fIn[k] ≠ b.fIn[k] ∨ a.fOut[k] ≠ b.fOut[k]))) → ∀ i, i < k + 1 → ∀ (h : i < a.fIn.length) (h' : i < b.fIn.length) (g : i < a.fOut.length) (g' : i < b.fOut.length), ¬ (b.fIn[i] ≠ -1 ∧ a.fIn[i] ≠ -1 ∧ (a.fIn[i] ≠ b.fIn[i] ∨ a.fOut[i] ≠ b.fOut[i])) := fun hk i hi h h' g g' => by
        by_cases e : i = k
        · subst e; exact hk
        · exact hn i (by omega) h h' g g'
      refine Tot.bindIdx k rfl kb ?_
      refine Tot.jnR (fun m : List Int × List Int => MI a b (k + 1) a.fOut b.fOut m.1 ∧ MI a b (k + 1) a.fIn b.fIn m.2 ∧ ¬ (b.fIn[k] ≠ -1 ∧ a.fIn[k] ≠ -1 ∧ (a.fIn[k] ≠ b.fIn[k] ∨ a.fOut[k] ≠ b.fOut[k]))) (fun j hj => ?_) (fun m hm => ?_)
      · refine Tot.ite (fun c => ?_) (fun c => ?_)
        · have hc : b.fIn[k] = -1 := by simpa using c
          have hs : ¬ (a.fIn[k]? = some (-1) ∧ b.fIn[k]? ≠ some (-1)) := fun h => h.2 (by rw [List.getElem?_eq_getElem kb, hc])
          exact hj _ ⟨ho.skip hs, hi.skip hs, fun h => h.1 hc⟩
        · have hc : b.fIn[k] ≠ -1 := by simpa using c
          refine Tot.bindIdx k rfl ka (Tot.ite (fun c2 => ?_) (fun c2 => ?_))
          · have hc2 : a.fIn[k] = -1 := by simpa using c2
            have hs : a.fIn[k]? = some (-1) ∧ b.fIn[k]? ≠ some (-1) := ⟨by rw [List.getElem?_eq_getElem ka, hc2], fun h => hc (by rw [List.getElem?_eq_getElem kb] at h; exact Option.some.inj h)⟩
            refine Tot.bindIdx k rfl kb (Tot.bindIdx k rfl kbo (Tot.bindIdx k rfl kci (Tot.bindIdx k rfl kci (Tot.bindIdx k rfl kco (Tot.bindIdx k rfl kco (hj _ ?_))))))
            simp only [Int.toNat_natCast]
            exact ⟨ho.take hs kao (List.getElem?_eq_getElem kbo), hi.take hs ka (List.getElem?_eq_getElem kb), fun h => h.2.1 hc2⟩
          · have hc2 : a.fIn[k] ≠ -1 := by simpa using c2
            refine Tot.jnR (fun m : Bool => m = true ↔ (a.fIn[k] ≠ b.fIn[k] ∨ a.fOut[k] ≠ b.fOut[k])) (fun j2 hj2 => ?_) (fun m hm => ?_)
            · refine Tot.bindIdx k rfl ka (Tot.bindIdx k rfl kb (Tot.ite (fun c3 => hj2 _ ?_) (fun c3 => ?_)))
              · exact ⟨fun _ => .inl (by simpa using c3), fun _ => rfl⟩
              · refine Tot.bindIdx k rfl kao (Tot.bindIdx k rfl kbo (hj2 _ ?_))
                rw [bne_iff_ne]
                have : a.fIn[k] = b.fIn[k] := by simpa using c3
                simp [this]
            · refine Tot.ite (fun c3 => Tot.out ⟨k, ka, kb, kao, kbo, hc, hc2, hm.1 c3⟩) (fun c3 => hj _ ?_)
              have hs : ¬ (a.fIn[k]? = some (-1) ∧ b.fIn[k]? ≠ some (-1)) := fun h => hc2 (by have := h.1; rw [List.getElem?_eq_getElem ka] at this; exact Option.some.inj this)
              exact ⟨ho.skip hs, hi.skip hs, fun h => by rw [hm.2 h.2.2] at c3; cases c3⟩
      · exact Tot.next ⟨k + 1, hw, by omega, hm.1, hm.2.1, nxt hm.2.2⟩ (by simp only [hw, Int.toNat_natCast]; omega)
    · have : k = a.fIn.length := by simp at h; omega
      refine Tot.out ⟨?_, hi.done this el, ho.done (by omega) (by omega)⟩
      rintro ⟨i, h1, h2, h3, h4, h5⟩
      exact hn i (by omega) h1 h2 h3 h4 h5
  · intro x hx
    cases x with
    | inl _ => exact Tot.some (.inr (.inr (.inl ⟨va, vb, hd, hx, rfl⟩)))
    | inr p => exact Tot.some (.inr (.inr (.inr ⟨va, vb, hd, hx.1, _, _, hx.2.1, hx.2.2, rfl⟩)))

-- putting

def put1 (l : List Int) (i : Nat) (v : Int) : List Int := if i = l.length then l ++ [v] else l.set i v
open Classical in
noncomputable def PutF (s : api_Series) (at' x y : Int) : api_Series × Int :=
  if VOk s then (if at' < 0 ∨ (s.fIn.length : Int) < at' then (zs, 9) else
    (if VOk ⟨s.fPort, s.fSeconds, put1 s.fIn at'.toNat x, put1 s.fOut at'.toNat y⟩ then (⟨s.fPort, s.fSeconds, put1 s.fIn at'.toNat x, put1 s.fOut at'.toNat y⟩, 0) else (zs, 1))) else (zs, 1)
theorem put1_len (l : List Int) (i : Nat) (v : Int) : (put1 l i v).length ≤ l.length + 1 := by
  unfold put1; split <;> simp
theorem put1_app (l : List Int) (v w : Int) : ((l ++ [w]).set l.length v) = put1 l l.length v := by
  unfold put1
  rw [if_pos rfl, List.set_append_right _ _ (Nat.le_refl _)]
  simp
theorem PutF_small (s : api_Series) (at' x y : Int) : (PutF s at' x y).1.fIn.length ≤ 9001 ∧ (PutF s at' x y).1.fOut.length ≤ 9001 := by
  unfold PutF
  split
  · rename_i v
    have := v.most; have := v.len
    split
    · simp
    · split
      · have h1 := put1_len s.fIn at'.toNat x
        have h2 := put1_len s.fOut at'.toNat y
        simp only
        omega
      · simp
  · simp

theorem put_eq (s : api_Series) (hl : s.fIn.length ≤ 1000000) (at' x y : Int) : percentile_Put s at' x y = some (PutF s at' x y) := by
  refine Tot.eq ?_
  unfold percentile_Put PutF
  refine Tot.bindT (valid_eq s hl) fun b hb => ?_
  refine Tot.ite (fun h => ?_) (fun h => ?_)
  · have : ¬ VOk s := fun v => by rw [hb.2 v] at h; cases h
    rw [if_neg this]; exact Tot.some rfl
  have v : VOk s := hb.1 (by simpa using h)
  rw [if_pos v]
  have l1 := v.len; have l2 := v.most
  refine Tot.ite (fun h => ?_) (fun h => ?_)
  · rw [if_pos (by simpa using h)]; exact Tot.some rfl
  have hat : ¬ (at' < 0 ∨ (s.fIn.length : Int) < at') := by simp only [Bool.or_eq_false_iff, decide_eq_false_iff_not] at h; omega
  rw [if_neg hat]
  obtain ⟨k, rfl⟩ : ∃ k : Nat, at' = k := ⟨at'.toNat, by omega⟩
  have hk : k ≤ s.fIn.length := by omega
  refine Tot.bindOf (clone_eq3 hl (by omega)) ?_
  refine Tot.jnR (fun m : List Int × List Int => k < m.1.length ∧ k < m.2.length ∧ m.1.set k y = put1 s.fOut k y ∧ m.2.set k x = put1 s.fIn k x) (fun j hj => ?_) (fun m hm => ?_)
  · refine Tot.ite (fun c => ?_) (fun c => ?_)
    · obtain rfl : k = s.fIn.length := by simp at c; omega
      refine Tot.chk (by simp [LIM]; omega) (Tot.chk (by simp [LIM]; omega) (hj _ ⟨by simp; omega, by simp, ?_, put1_app _ _ _⟩))
      rw [l1]; exact put1_app _ _ _
    · have hlt : k < s.fIn.length := by
        have : k ≠ s.fIn.length := fun e => by rw [e] at c; simp at c
        omega
      exact hj _ ⟨by simp only; omega, hlt, by unfold put1; rw [if_neg (by omega)], by unfold put1; rw [if_neg (by omega)]⟩
  · obtain ⟨m1, m2, m3, m4⟩ := hm
    refine Tot.bindIdx k rfl m2 (Tot.bindIdx k rfl m2 (Tot.bindIdx k rfl m1 (Tot.bindIdx k rfl m1 ?_)))
    simp only [Int.toNat_natCast, List.drop_zero]
    rw [List.take_of_length_le (by simp), List.take_of_length_le (by simp), m3, m4]
    refine Tot.bindT (valid_eq _ (by have := put1_len s.fIn k x; simp only; omega)) fun b hb => ?_
    refine Tot.ite (fun h => ?_) (fun h => ?_)
    · rw [if_neg fun v => by rw [hb.2 v] at h; cases h]; exact Tot.some rfl
    · rw [if_pos (hb.1 (by simpa using h))]; exact Tot.some rfl
theorem put_ref (s : api_Series) (hl : s.fIn.length ≤ 1000000) (at' x y : Int) : exchangepointref40_Put s at' x y = some (PutF s at' x y) := by
  refine Tot.eq ?_
  unfold exchangepointref40_Put PutF
  refine Tot.bindT (valid_ref s hl) fun b hb => ?_
  refine Tot.ite (fun h => ?_) (fun h => ?_)
  · have : ¬ VOk s := fun v => by rw [hb.2 v] at h; cases h
    rw [if_neg this]; exact Tot.some rfl
  have v : VOk s := hb.1 (by simpa using h)
  rw [if_pos v]
  have l1 := v.len; have l2 := v.most
  refine Tot.ite (fun h => ?_) (fun h => ?_)
  · rw [if_pos (by simpa using h)]; exact Tot.some rfl
  have hat : ¬ (at' < 0 ∨ (s.fIn.length : Int) < at') := by simp only [Bool.or_eq_false_iff, decide_eq_false_iff_not] at h; omega
  rw [if_neg hat]
  obtain ⟨k, rfl⟩ : ∃ k : Nat, at' = k := ⟨at'.toNat, by omega⟩
  have hk : k ≤ s.fIn.length := by omega
  refine Tot.bindOf (copy_eq3 hl (by omega)) ?_
  refine Tot.jnR (fun m : List Int × List Int => k < m.1.length ∧ k < m.2.length ∧ m.1.set k y = put1 s.fOut k y ∧ m.2.set k x = put1 s.fIn k x) (fun j hj => ?_) (fun m hm => ?_)
  · refine Tot.ite (fun c => ?_) (fun c => ?_)
    · obtain rfl : k = s.fIn.length := by simp at c; omega
      refine Tot.chk (by simp [LIM]; omega) (Tot.chk (by simp [LIM]; omega) (hj _ ⟨by simp; omega, by simp, ?_, put1_app _ _ _⟩))
      rw [l1]; exact put1_app _ _ _
    · have hlt : k < s.fIn.length := by
        have : k ≠ s.fIn.length := fun e => by rw [e] at c; simp at c
        omega
      exact hj _ ⟨by simp only; omega, hlt, by unfold put1; rw [if_neg (by omega)], by unfold put1; rw [if_neg (by omega)]⟩
  · obtain ⟨m1, m2, m3, m4⟩ := hm
    refine Tot.bindIdx k rfl m2 (Tot.bindIdx k rfl m2 (Tot.bindIdx k rfl m1 (Tot.bindIdx k rfl m1 ?_)))
    simp only [Int.toNat_natCast, List.drop_zero]
    rw [List.take_of_length_le (by simp), List.take_of_length_le (by simp), m3, m4]
    refine Tot.bindT (valid_ref _ (by have := put1_len s.fIn k x; simp only; omega)) fun b hb => ?_
    refine Tot.ite (fun h => ?_) (fun h => ?_)
    · rw [if_neg fun v => by rw [hb.2 v] at h; cases h]; exact Tot.some rfl
    · rw [if_pos (hb.1 (by simpa using h))]; exact Tot.some rfl
end Go.Proofs.Ytgbfjigliajbkaa

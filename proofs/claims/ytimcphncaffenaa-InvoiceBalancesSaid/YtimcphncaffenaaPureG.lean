/- Chapter 41 in plain Lean: corrections. -/
import Derived.Test.YtimcphncaffenaaPureF
namespace Go.Proofs.Ytimcphncaffenaa
open Go Go.Vc

def nz (x : api_Line) : Bool := !((x.fUsed == (0 : Int)) && (x.fAmount == (0 : Int)))
theorem index2_eq (l : List api_Line) (hl : l.length ≤ 1000000) : Tot (slices_IndexFunc_2 l) (fun r => (r = -1 ∧ ∀ x ∈ l, nz x = true) ∨ ∃ i : Nat, r = (i : Int) ∧ ∃ h : i < l.length, nz l[i] = false ∧ ∀ x ∈ l.take i, nz x = true) := by
  unfold slices_IndexFunc_2
  refine Tot.bindRng l.length (fun k (_ : Unit) => (k : Int)) (fun k _ => ∀ x ∈ l.take k, nz x = true) (fun x => match x with | .inl r => ∃ i : Nat, r = (i : Int) ∧ ∃ h : i < l.length, nz l[i] = false ∧ ∀ x ∈ l.take i, nz x = true | .inr _ => ∀ x ∈ l, nz x = true) () rfl (by simp) ?_ ?_ ?_
  · rintro k _ hk hj
    unfold slices_IndexFunc_2_L0 invoice_Correct_1
    simp only [Option.bind_some]
    refine Tot.iteT (decide_eq_true (by omega)) (Tot.bindIdx k rfl hk (Tot.bindIdx k rfl hk (Tot.ite (fun h => Tot.stop ⟨k, rfl, hk, ?_, hj⟩) (fun h => Tot.step () (cast_succ_w hk (by omega)) fun x hx => ?_))))
    · unfold nz; rw [h]; rfl
    · rw [take_snoc hk] at hx
      rcases List.mem_append.1 hx with hx | hx
      · exact hj x hx
      · rw [List.mem_singleton.1 hx]; unfold nz; rw [h]; rfl
  · rintro _ hj
    rw [List.take_length] at hj
    unfold slices_IndexFunc_2_L0
    exact Tot.iteF (decide_eq_false (by omega)) (Tot.last hj)
  · rintro (r | u) hx
    · exact Tot.some (.inr hx)
    · exact Tot.some (.inl ⟨rfl, hx⟩)
theorem filter_all {l : List api_Line} (h : ∀ x ∈ l, nz x = true) : l.filter nz = l := List.filter_eq_self.2 h
theorem delete_eq (l : List api_Line) (hl : l.length ≤ 1000000) : slices_DeleteFunc l = some (l.filter nz) := by
  refine Tot.eq ?_
  unfold slices_DeleteFunc
  refine Tot.bindT (index2_eq l hl) ?_
  rintro r (⟨rfl, h⟩ | ⟨i0, rfl, hi, hn, h⟩)
  · exact Tot.iteT rfl (Tot.some (filter_all h).symm)
  · refine Tot.iteF (by simp) ?_
    refine Tot.bindRng (l.length - (i0 + 1)) (fun k (b : Int × List api_Line) => (b.1, ((i0 + 1 + k : Nat) : Int), b.2))
      (fun k b => ∃ i : Nat, b.1 = (i : Int) ∧ i < i0 + 1 + k ∧ b.2.length = l.length ∧ b.2.take i = (l.take (i0 + 1 + k)).filter nz ∧ b.2.drop (i0 + 1 + k) = l.drop (i0 + 1 + k))
      (fun x => ∃ i : Nat, x.1 = (i : Int) ∧ i ≤ l.length ∧ x.2.length = l.length ∧ x.2.take i = l.filter nz) ((i0 : Int), l) (by simp only; rw [cast_succ_w hi (by omega)]) ⟨i0, rfl, by omega, rfl, ?_, rfl⟩ ?_ ?_ ?_
    · simp only [Nat.add_zero]
      rw [take_snoc hi, List.filter_append, filter_all h]
      simp [hn]
    · rintro k ⟨_, s⟩ hk ⟨i, rfl, hik, hsl, ht, hd⟩
      simp only at hsl ht hd
      unfold slices_DeleteFunc_L0
      have hj : i0 + 1 + k < s.length := by omega
      have hjl : i0 + 1 + k < l.length := by omega
      have hx : s[i0 + 1 + k] = l[i0 + 1 + k] := by
        have e1 := List.drop_eq_getElem_cons hj
        have e2 := List.drop_eq_getElem_cons hjl
        rw [hd, e2] at e1
        exact (List.cons.inj e1).1.symm
      have hd' : s.drop (i0 + 1 + (k + 1)) = l.drop (i0 + 1 + (k + 1)) := by
        have e1 := List.drop_eq_getElem_cons hj
        have e2 := List.drop_eq_getElem_cons hjl
        rw [hd, e2] at e1
        exact (List.cons.inj e1).2.symm
      refine Tot.iteT (decide_eq_true (by simp only; omega)) (Tot.bindIdx _ rfl hj (Tot.bindIdx _ rfl hj ?_))
      rw [hx]
      unfold invoice_Correct_1
      simp only [Option.bind_some]
      refine Tot.jnR (fun m : Int × List api_Line => ∃ i : Nat, m.1 = (i : Int) ∧ i < i0 + 1 + (k + 1) ∧ m.2.length = l.length ∧ m.2.take i = (l.take (i0 + 1 + (k + 1))).filter nz ∧ m.2.drop (i0 + 1 + (k + 1)) = l.drop (i0 + 1 + (k + 1))) (fun j hjj => ?_) ?_
      · have hs1 : l.take (i0 + 1 + (k + 1)) = l.take (i0 + 1 + k) ++ [l[i0 + 1 + k]] := take_snoc hjl
        refine Tot.ite (fun h1 => ?_) (fun h1 => ?_)
        · have hi' : i < s.length := by omega
          refine Tot.bindIdx i rfl hi' (Tot.bindIdx i rfl hi' (hjj _ ⟨i + 1, cast_succ_w hi' (by omega), by omega, ?_, ?_, ?_⟩))
          · simp only [List.length_set]; exact hsl
          · simp only [Int.toNat_natCast]
            have e1 : ((s.set i l[i0 + 1 + k]).take (i + 1)) = s.take i ++ [l[i0 + 1 + k]] := by
              rw [take_snoc (by rw [List.length_set]; exact hi'), List.getElem_set_self, List.take_set_of_le (Nat.le_refl _)]
            rw [e1, hs1, List.filter_append, ht]
            have : nz l[i0 + 1 + k] = true := h1
            simp [this]
          · simp only [Int.toNat_natCast]
            rw [List.drop_set_of_lt (by omega)]
            exact hd'
        · refine hjj _ ⟨i, rfl, by omega, hsl, ?_, hd'⟩
          rw [hs1, List.filter_append, ← ht]
          have : nz l[i0 + 1 + k] = false := h1
          simp [this]
      · rintro ⟨_, s⟩ ⟨i, rfl, h1, h2, h3, h4⟩
        refine Tot.step (((i : Int)), s) ?_ ⟨i, rfl, h1, h2, h3, h4⟩
        refine Prod.ext rfl (Prod.ext ?_ rfl)
        exact cast_succ_w hj (by omega)
    · rintro ⟨_, s⟩ ⟨i, rfl, hik, hsl, ht, hd⟩
      simp only at hsl ht hd
      have e : i0 + 1 + (l.length - (i0 + 1)) = l.length := by omega
      rw [e] at hik ht
      rw [List.take_length] at ht
      unfold slices_DeleteFunc_L0
      exact Tot.iteF (decide_eq_false (by simp only; omega)) (Tot.last ⟨i, rfl, by omega, hsl, ht⟩)
    · rintro ⟨_, s⟩ ⟨i, rfl, h1, h2, h3⟩
      simp only [Int.toNat_natCast] at h2 h3 ⊢
      refine Tot.chk (by simp only [Bool.and_eq_true, decide_eq_true_eq]; omega) (Tot.chk (by simp only [decide_eq_true_eq]; omega) (Tot.chk (by simp only [Bool.and_eq_true, decide_eq_true_eq]; omega) (Tot.some ?_)))
      have hti : (s.take i).length = i := by rw [List.length_take]; omega
      rw [List.drop_zero, List.append_assoc, List.take_append_of_le_length (by omega), List.take_of_length_le (by omega)]
      exact h3

theorem addF_end {x : api_Line} (hx : lineI x) : ∀ {l : List api_Line}, (∀ y ∈ l, y.fPort < x.fPort) → AddF x 1 l = l ++ [x]
  | [], _ => by
    unfold AddF upLine
    obtain ⟨⟨a1, a2⟩, b1, b2⟩ := hx
    simp only [Int.one_mul, List.nil_append]
    rw [w64_zero_add, w64_zero_add, w64_id a1 a2, w64_id b1 b2]
  | y :: r, h => by
    unfold AddF
    rw [if_pos (h y (List.mem_cons_self ..)), addF_end hx fun z hz => h z (List.mem_cons_of_mem _ hz)]
    rfl
theorem addAll_self {ls : List api_Line} (hu : portsUp ls) (hi : ∀ x ∈ ls, lineI x) : addAll [] ls 1 = ls := by
  have key : ∀ k, addAll [] (ls.take k) 1 = ls.take k := by
    intro k
    induction k with
    | zero => rfl
    | succ k ih =>
      by_cases hk : k < ls.length
      · rw [take_snoc hk, addAll_snoc, ih, addF_end (hi _ (List.getElem_mem hk))]
        intro y hy
        obtain ⟨i, hi', rfl⟩ := List.getElem_of_mem hy
        rw [List.length_take] at hi'
        rw [List.getElem_take]
        exact sorted_get hu _ hk (by omega)
      · rw [List.take_of_length_le (by omega)]
        rwa [List.take_of_length_le (by omega)] at ih
  have := key ls.length
  rwa [List.take_length] at this

theorem line_err {t : api_Tariff} {l : List api_Series} {p e : Int} (h : LineF t l p = .inl e) : e ≠ 0 := by
  unfold LineF at h
  split at h
  · cases h; decide
  · split at h
    · rename_i h1; cases h; exact h1
    · split at h
      · rename_i h1; cases h; exact h1
      · cases h
theorem lines_err0 {t : api_Tariff} {l : List api_Series} : ∀ {ps : List Int} {e : Int}, LinesF t l ps = .inl e → e ≠ 0
  | [], e, h => by simp only [LinesF] at h; cases h
  | q :: qs, e, h => by
    simp only [LinesF] at h
    cases hx : LineF t l q with
    | inl e' => rw [hx] at h; cases h; exact line_err hx
    | inr y =>
      rw [hx] at h
      simp only at h
      cases hr : LinesF t l qs with
      | inl e' => rw [hr] at h; cases h; exact lines_err0 hr
      | inr ys => rw [hr] at h; cases h
structure Made (m : api_Member) (mo : Int) (t : api_Tariff) (l : List api_Series) (xs : List api_Line) : Prop where
  eq : MakeF m mo t l = (⟨m.fASN, mo, 1, xs, totF xs⟩, 0)
  pok : POk m
  asn : asnOk m.fASN
  mon : monOk mo
  lines : LinesF t l (srt (IDs m)) = .inr xs
theorem made_of {m : api_Member} {mo : Int} {t : api_Tariff} {l : List api_Series} (h : (MakeF m mo t l).2 = 0) : ∃ xs, Made m mo t l xs := by
  unfold MakeF at h
  split at h
  · cases h
  · rename_i h1
    have h1 := Classical.not_not.1 h1
    split at h
    · cases h
    · rename_i h2
      split at h
      · rename_i e hL
        exact absurd h (lines_err0 hL)
      · rename_i xs hL
        refine ⟨xs, ?_, h1.1, h1.2.1, h1.2.2, hL⟩
        unfold MakeF
        rw [if_neg (Classical.not_not.2 h1), if_neg h2, hL]
section
variable {m : api_Member} {mo : Int} {t : api_Tariff} {l : List api_Series} {xs : List api_Line}
theorem Made.up (d : Made m mo t l xs) : portsUp xs ∧ portsIn xs ∧ xs.length ≤ 4 ∧ (∀ x ∈ xs, lineOk x) ∧ (∀ x ∈ xs, idOk x.fPort) := lines_up (k := (srt (IDs m)).length) d.pok (by rw [List.take_length]; exact d.lines)
theorem Made.good (d : Made m mo t l xs) : Good xs 4 := ⟨d.up.1, d.up.2.2.2.2, d.up.2.2.1⟩
theorem Made.self (d : Made m mo t l xs) : addAll [] xs 1 = xs := addAll_self d.up.1 fun x hx => (d.up.2.2.2.1 x hx).toI
end
theorem sumF_ok {l : List api_Invoice} (h : (SumF l).2 = 0) : SumF l = (SumV l, 0) ∧ ConsP (SumV l) ∧ l.length ≤ 1000 ∧ 0 < l.length ∧ (∀ v ∈ l, ConsP v) ∧ OrdP l := by
  unfold SumF at h ⊢
  split at h
  · cases h
  · split at h
    · cases h
    · split at h
      · cases h
      · split at h
        · rename_i h1 h2 h3 h4
          rw [if_neg h1, if_neg h2, if_neg h3, if_pos h4]
          exact ⟨rfl, h4, by omega, by omega, Classical.not_not.1 h2, Classical.not_not.1 h3⟩
        · cases h

def DiffL (xs ys : List api_Line) : List api_Line := (addAll xs ys (-1)).filter nz
def CorV (s : api_Invoice) (ls : List api_Line) : api_Invoice := ⟨s.fMember, s.fMonth, w64 (s.fVersion + 1), ls, totF ls⟩
open Classical in
noncomputable def CorrectF (old : List api_Invoice) (m : api_Member) (t : api_Tariff) (l : List api_Series) : api_Invoice × Int :=
  if (SumF old).2 ≠ 0 then (zi, (SumF old).2) else if m.fASN ≠ (SumF old).1.fMember then (zi, 32) else if (MakeF m (SumF old).1.fMonth t l).2 ≠ 0 then (zi, (MakeF m (SumF old).1.fMonth t l).2) else
    if (DiffL (MakeF m (SumF old).1.fMonth t l).1.fLines (SumF old).1.fLines).length = 0 then (zi, 7) else
      if ConsP (CorV (SumF old).1 (DiffL (MakeF m (SumF old).1.fMonth t l).1.fLines (SumF old).1.fLines)) then (CorV (SumF old).1 (DiffL (MakeF m (SumF old).1.fMonth t l).1.fLines (SumF old).1.fLines), 0) else (zi, 3)

theorem correct_eq (old : List api_Invoice) (m : api_Member) (t : api_Tariff) {l : List api_Series} (hm : m.fPorts.length ≤ 1000000) (hl : SersOk l) : invoice_Correct old m t l = some (CorrectF old m t l) := by
  refine Tot.eq ?_
  unfold invoice_Correct CorrectF
  refine Tot.bindOf (sum_eq old) (Tot.ite (fun h => ?_) (fun h => ?_))
  · rw [if_pos (show (SumF old).2 ≠ 0 by simpa using h)]; exact Tot.some rfl
  rw [if_neg (show ¬ (SumF old).2 ≠ 0 by simpa using h)]
  obtain ⟨e, hc, _, _, _, _⟩ := sumF_ok (l := old) (by simpa using h)
  rw [e]
  refine Tot.ite (fun h => ?_) (fun h => ?_)
  · rw [if_pos (show m.fASN ≠ (SumV old).fMember by simpa using h)]; exact Tot.some rfl
  rw [if_neg (show ¬ m.fASN ≠ (SumV old).fMember by simpa using h)]
  refine Tot.bindOf (make_eq _ _ _ hm hl) (Tot.ite (fun h => ?_) (fun h => ?_))
  · rw [if_pos (show (MakeF m (SumV old).fMonth t l).2 ≠ 0 by simpa using h)]; exact Tot.some rfl
  rw [if_neg (show ¬ (MakeF m (SumV old).fMonth t l).2 ≠ 0 by simpa using h)]
  obtain ⟨xs, d⟩ := made_of (show (MakeF m (SumV old).fMonth t l).2 = 0 by simpa using h)
  rw [d.eq]
  simp only
  have h4 := d.up.2.2.1
  refine Tot.bindOf ((prog_loop (a := []) (n := 0) ⟨by unfold portsUp; simp, by simp, by simp⟩ d.up.2.2.2.2 (by omega) 1).trans (congrArg some d.self)) ?_
  refine Tot.bindOf (prog_loop d.good hc.ids (by have := hc.few; omega) (-1)) ?_
  have hlen : (addAll xs (SumV old).fLines (-1)).length ≤ 1000 := by
    have := (d.good.addAll (-1) hc.ids).len
    have := hc.few
    omega
  refine Tot.bindOf (delete_eq _ (by omega)) ?_
  have hlen2 : (DiffL xs (SumV old).fLines).length ≤ 1000 := by
    have := List.length_filter_le nz (addAll xs (SumV old).fLines (-1))
    unfold DiffL; omega
  refine Tot.ite (fun h => ?_) (fun h => ?_)
  · rw [if_pos (show (DiffL xs (SumV old).fLines).length = 0 by simp only [beq_iff_eq] at h; unfold DiffL; omega)]; exact Tot.some rfl
  rw [if_neg (show ¬ (DiffL xs (SumV old).fLines).length = 0 by simp only [beq_eq_false_iff_ne] at h; unfold DiffL; omega)]
  refine Tot.bindOf (total2_eq _ (Nat.le_trans hlen2 (by omega)) _ _ _) (Tot.bindT (cons_eq _) fun b hb => ?_)
  cases b with
  | false =>
    rw [if_neg (show ¬ ConsP (CorV (SumV old) (DiffL xs (SumV old).fLines)) from fun h => by have := hb.2 h; cases this)]
    exact Tot.iteT rfl (Tot.some rfl)
  | true =>
    rw [if_pos (show ConsP (CorV (SumV old) (DiffL xs (SumV old).fLines)) from hb.1 rfl)]
    exact Tot.iteF rfl (Tot.some rfl)

theorem correct_2_eq (old : List api_Invoice) (m : api_Member) (t : api_Tariff) {l : List api_Series} (hm : m.fPorts.length ≤ 1000000) (hl : SersOk l) : invoice_Correct_2 old m t l = some (CorrectF old m t l) := by
  refine Tot.eq ?_
  unfold invoice_Correct_2 CorrectF
  refine Tot.bindOf (sum_2_eq old) (Tot.ite (fun h => ?_) (fun h => ?_))
  · rw [if_pos (show (SumF old).2 ≠ 0 by simpa using h)]; exact Tot.some rfl
  rw [if_neg (show ¬ (SumF old).2 ≠ 0 by simpa using h)]
  obtain ⟨e, hc, _, _, _, _⟩ := sumF_ok (l := old) (by simpa using h)
  rw [e]
  refine Tot.ite (fun h => ?_) (fun h => ?_)
  · rw [if_pos (show m.fASN ≠ (SumV old).fMember by simpa using h)]; exact Tot.some rfl
  rw [if_neg (show ¬ m.fASN ≠ (SumV old).fMember by simpa using h)]
  refine Tot.bindOf (make_eq _ _ _ hm hl) (Tot.ite (fun h => ?_) (fun h => ?_))
  · rw [if_pos (show (MakeF m (SumV old).fMonth t l).2 ≠ 0 by simpa using h)]; exact Tot.some rfl
  rw [if_neg (show ¬ (MakeF m (SumV old).fMonth t l).2 ≠ 0 by simpa using h)]
  obtain ⟨xs, d⟩ := made_of (show (MakeF m (SumV old).fMonth t l).2 = 0 by simpa using h)
  rw [d.eq]
  simp only
  have h4 := d.up.2.2.1
  refine Tot.bindOf ((prog_loop (a := []) (n := 0) ⟨by unfold portsUp; simp, by simp, by simp⟩ d.up.2.2.2.2 (by omega) 1).trans (congrArg some d.self)) ?_
  refine Tot.bindOf (prog_loop d.good hc.ids (by have := hc.few; omega) (-1)) ?_
  have hlen : (addAll xs (SumV old).fLines (-1)).length ≤ 1000 := by
    have := (d.good.addAll (-1) hc.ids).len
    have := hc.few
    omega
  refine Tot.bindOf (delete_eq _ (by omega)) ?_
  have hlen2 : (DiffL xs (SumV old).fLines).length ≤ 1000 := by
    have := List.length_filter_le nz (addAll xs (SumV old).fLines (-1))
    unfold DiffL; omega
  refine Tot.ite (fun h => ?_) (fun h => ?_)
  · rw [if_pos (show (DiffL xs (SumV old).fLines).length = 0 by simp only [beq_iff_eq] at h; unfold DiffL; omega)]; exact Tot.some rfl
  rw [if_neg (show ¬ (DiffL xs (SumV old).fLines).length = 0 by simp only [beq_eq_false_iff_ne] at h; unfold DiffL; omega)]
  refine Tot.bindOf (total2_eq _ (Nat.le_trans hlen2 (by omega)) _ _ _) (Tot.bindT (cons_eq _) fun b hb => ?_)
  cases b with
  | false =>
    rw [if_neg (show ¬ ConsP (CorV (SumV old) (DiffL xs (SumV old).fLines)) from fun h => by have := hb.2 h; cases this)]
    exact Tot.iteT rfl (Tot.some rfl)
  | true =>
    rw [if_pos (show ConsP (CorV (SumV old) (DiffL xs (SumV old).fLines)) from hb.1 rfl)]
    exact Tot.iteF rfl (Tot.some rfl)

theorem keep_ref (ls : List api_Line) (hl : ls.length ≤ 1000000) : Tot (loop (exchangepointref41_Correct_L1 ls) ((0 : Int), (0 : Int), ([] : List api_Line))) (fun x => x = (totF (ls.filter nz), ls.filter nz)) := by
  refine Tot.rng ls.length (fun k (_ : Unit) => ((k : Int), totF ((ls.take k).filter nz), (ls.take k).filter nz)) (fun _ _ => True) _ () rfl trivial ?_ ?_
  · rintro k _ hk _
    unfold exchangepointref41_Correct_L1
    refine Tot.iteT (decide_eq_true (by simp only; omega)) (Tot.bindIdx k rfl hk ?_)
    refine Tot.jnR (fun m : Int × List api_Line => m = (totF ((ls.take (k + 1)).filter nz), (ls.take (k + 1)).filter nz)) (fun j hj => ?_) (fun m hm => ?_)
    · have hnz : nz ls[k] = ((ls[k].fUsed != (0 : Int)) || (ls[k].fAmount != (0 : Int))) := by unfold nz; simp [bne, Bool.not_and]
      rw [take_snoc hk, List.filter_append] at hj
      refine Tot.ite (fun h => ?_) (fun h => ?_)
      · have : nz ls[k] = true := by rw [hnz]; exact h
        have hle := List.length_filter_le nz (ls.take k)
        rw [List.length_take] at hle
        refine Tot.chk (limB (by simp only [List.length_append, List.length_cons, List.length_nil]; omega)) (hj _ ?_)
        simp only [List.filter_cons, this, if_true, List.filter_nil]
        rw [totF_snoc]
      · have : nz ls[k] = false := by rw [hnz]; exact h
        refine hj _ ?_
        simp [List.filter_cons, this]
    · subst hm
      exact Tot.step () (Prod.ext (cast_succ_w hk (by omega)) rfl) trivial
  · rintro _ _
    unfold exchangepointref41_Correct_L1
    exact Tot.iteF (decide_eq_false (by simp only; omega)) (Tot.last (by simp only [List.take_length]))
theorem correct_ref (old : List api_Invoice) (m : api_Member) (t : api_Tariff) {l : List api_Series} (hm : m.fPorts.length ≤ 1000000) (hl : SersOk l) : exchangepointref41_Correct old m t l = some (CorrectF old m t l) := by
  refine Tot.eq ?_
  unfold exchangepointref41_Correct CorrectF
  refine Tot.bindOf (sum_ref old) (Tot.ite (fun h => ?_) (fun h => ?_))
  · rw [if_pos (show (SumF old).2 ≠ 0 by simpa using h)]; exact Tot.some rfl
  rw [if_neg (show ¬ (SumF old).2 ≠ 0 by simpa using h)]
  obtain ⟨e, hc, _, _, _, _⟩ := sumF_ok (l := old) (by simpa using h)
  rw [e]
  refine Tot.ite (fun h => ?_) (fun h => ?_)
  · rw [if_pos (show m.fASN ≠ (SumV old).fMember by simpa using h)]; exact Tot.some rfl
  rw [if_neg (show ¬ m.fASN ≠ (SumV old).fMember by simpa using h)]
  refine Tot.bindOf (make_ref _ _ _ hm hl) (Tot.ite (fun h => ?_) (fun h => ?_))
  · rw [if_pos (show (MakeF m (SumV old).fMonth t l).2 ≠ 0 by simpa using h)]; exact Tot.some rfl
  rw [if_neg (show ¬ (MakeF m (SumV old).fMonth t l).2 ≠ 0 by simpa using h)]
  obtain ⟨xs, d⟩ := made_of (show (MakeF m (SumV old).fMonth t l).2 = 0 by simpa using h)
  rw [d.eq]
  simp only
  refine Tot.bindOf (ref_loop' d.good hc.ids (by have := hc.few; omega) (-1)) ?_
  have hlen : (addAll xs (SumV old).fLines (-1)).length ≤ 1000 := by
    have := (d.good.addAll (-1) hc.ids).len
    have := hc.few
    omega
  refine Tot.bindT (keep_ref _ (by omega)) ?_
  rintro _ rfl
  refine Tot.ite (fun h => ?_) (fun h => ?_)
  · rw [if_pos (show (DiffL xs (SumV old).fLines).length = 0 by simp only [beq_iff_eq] at h; unfold DiffL; omega)]; exact Tot.some rfl
  rw [if_neg (show ¬ (DiffL xs (SumV old).fLines).length = 0 by simp only [beq_eq_false_iff_ne] at h; unfold DiffL; omega)]
  refine Tot.bindT (cons_ref _) fun b hb => ?_
  cases b with
  | false =>
    rw [if_neg (show ¬ ConsP (CorV (SumV old) (DiffL xs (SumV old).fLines)) from fun h => by have := hb.2 h; cases this)]
    exact Tot.iteT rfl (Tot.some rfl)
  | true =>
    rw [if_pos (show ConsP (CorV (SumV old) (DiffL xs (SumV old).fLines)) from hb.1 rfl)]
    exact Tot.iteF rfl (Tot.some rfl)
end Go.Proofs.Ytimcphncaffenaa

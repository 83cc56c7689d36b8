/- Tables in plain Lean: what is looked up stays through joining and choosing; the law of the same answers. -/
import Derived.Test.YtbkhigkknhlmhaaPureL
namespace Go.Proofs.Ytbkhigkknhlmhaa
open Go Go.Vc

/-- the longest that contains an address has this value -/
def LV (m : PM) (a : api_Addr) (v : Int) : Prop := ∃ q, m q = some v ∧ ContF q a = true ∧ ∀ q' v', m q' = some v' → ContF q' a = true → q'.fLen ≤ q.fLen
def LN (m : PM) (a : api_Addr) : Prop := ∀ q v, m q = some v → ContF q a ≠ true
open Classical in
theorem j_get {n : Int} {m : PM} {q : api_Prefix} {v : Int} (h : J n m q = some v) : pV q ∧ ((m q = some v ∧ ¬ (q.fLen = n ∧ (merged m (parP q)).isSome = true)) ∨ (q.fLen = n - 1 ∧ merged m q = some v)) := by
  unfold J JP at h
  by_cases hq : pV q
  · rw [if_pos hq] at h
    refine ⟨hq, ?_⟩
    by_cases c : q.fLen = n
    · rw [if_pos c] at h
      split at h
      · cases h
      · rename_i hc
        exact .inl ⟨h, fun e => hc ⟨trivial, e.2⟩⟩
    · rw [if_neg c] at h
      by_cases c2 : q.fLen = n - 1
      · rw [if_pos c2] at h
        split at h
        · exact .inr ⟨c2, h⟩
        · exact .inl ⟨h, fun e => c e.1⟩
      · rw [if_neg c2] at h
        exact .inl ⟨h, fun e => c e.1⟩
  · rw [if_neg hq] at h; cases h
open Classical in
theorem j_join {n : Int} {m : PM} {q : api_Prefix} (hq : pV q) (hn : q.fLen = n - 1) {v : Int} (h : merged m q = some v) : J n m q = some v := by
  unfold J JP
  rw [if_pos hq, if_neg (by omega), if_pos hn, if_pos ⟨trivial, by rw [h]; rfl⟩, h]
open Classical in
theorem j_keep {n : Int} {m : PM} {q : api_Prefix} (hq : pV q) {v : Int} (h : m q = some v) (h1 : q.fLen = n → merged m (parP q) = none) (h2 : q.fLen = n - 1 → merged m q = none) : J n m q = some v := by
  unfold J JP
  rw [if_pos hq]
  by_cases c : q.fLen = n
  · rw [if_pos c, if_neg (fun e => by have := e.2; rw [h1 c] at this; cases this), h]
  · rw [if_neg c]
    by_cases c2 : q.fLen = n - 1
    · rw [if_pos c2, if_neg (fun e => by have := e.2; rw [h2 c2] at this; cases this), h]
    · rw [if_neg c2, h]
/-- a joined prefix has a half with the address -/
theorem merged_half {m : PM} (hd : dom m) {P : api_Prefix} (hP : pV P) {v : Int} (h : merged m P = some v) {a : api_Addr} (c : ContF P a = true) : ∃ q, m q = some v ∧ ContF q a = true ∧ q.fLen = P.fLen + 1 := by
  obtain ⟨e1, e2⟩ := merged_iff.1 h
  rcases halves_cont hP (merged_len hd h) c with c | c
  · exact ⟨_, e1, c, rfl⟩
  · exact ⟨_, e2, c, rfl⟩
theorem lv_J {n : Int} {m : PM} (hd : dom m) (hn : 1 ≤ n) {a : api_Addr} {v : Int} (h : LV m a v) : LV (J n m) a v := by
  obtain ⟨q, e, c, hmax⟩ := h
  have hq := hd _ _ e
  by_cases k : q.fLen = n ∧ (merged m (parP q)).isSome = true
  · obtain ⟨k1, k2⟩ := k
    have l1 : 1 ≤ q.fLen := by omega
    obtain ⟨w, hw⟩ := Option.isSome_iff_exists.1 k2
    have hP := par_V hq l1
    have ew : w = v := by
      obtain ⟨g1, g2⟩ := merged_iff.1 hw
      rcases par_halves hq l1 with ⟨_, g⟩ | ⟨_, g⟩
      · rw [← g, e] at g1; exact (Option.some.inj g1).symm
      · rw [← g, e] at g2; exact (Option.some.inj g2).symm
    subst ew
    refine ⟨parP q, j_join hP (by rw [par_len, k1]) hw, par_cont hq l1 c, fun q' v' h' c' => ?_⟩
    rw [par_len, k1]
    obtain ⟨hq', ⟨g, g'⟩ | ⟨g, g'⟩⟩ := j_get h'
    · have := hmax _ _ g c'
      by_cases l : q'.fLen = n
      · have e2 : q' = q := covers_eq_len hq' hq (nest hq' hq c' c (by omega)) (by omega)
        subst e2
        exact (g' ⟨l, k2⟩).elim
      · omega
    · omega
  · refine ⟨q, j_keep hq e (fun l => ?_) (fun l => ?_), c, fun q' v' h' c' => ?_⟩
    · cases g : merged m (parP q) with
      | none => rfl
      | some w => exact (k ⟨l, by rw [g]; rfl⟩).elim
    · cases g : merged m q with
      | none => rfl
      | some w =>
        obtain ⟨q2, f1, f2, f3⟩ := merged_half hd hq g c
        have := hmax _ _ f1 f2
        omega
    · obtain ⟨hq', ⟨g, g'⟩ | ⟨g, g'⟩⟩ := j_get h'
      · exact hmax _ _ g c'
      · obtain ⟨q2, f1, f2, f3⟩ := merged_half hd hq' g' c'
        have := hmax _ _ f1 f2
        omega
theorem ln_J {n : Int} {m : PM} (hd : dom m) {a : api_Addr} (h : LN m a) : LN (J n m) a := fun q v e c => by
  obtain ⟨hq, ⟨g, g'⟩ | ⟨g, g'⟩⟩ := j_get e
  · exact h _ _ g c
  · obtain ⟨q2, f1, f2, f3⟩ := merged_half hd hq g' c
    exact h _ _ f1 f2
theorem lv_JJ {a : api_Addr} {v : Int} : ∀ (k : Nat) {m : PM}, dom m → LV m a v → LV (JJ k m) a v
  | 0, _, _, h => h
  | k + 1, _, hd, h => lv_JJ k j_dom (lv_J hd (by omega) h)
theorem ln_JJ {a : api_Addr} : ∀ (k : Nat) {m : PM}, dom m → LN m a → LN (JJ k m) a
  | 0, _, _, h => h
  | k + 1, _, hd, h => ln_JJ k j_dom (ln_J hd h)
/-- the value that is looked up -/
noncomputable def valL (t : List api_Entry) (a : api_Addr) : Option Int := (LookF t a).map api_Entry.fValue
theorem val_some {t : List api_Entry} (h : TV t) {a : api_Addr} {v : Int} : valL t a = some v ↔ LV (tget t) a v := by
  unfold valL
  rw [Option.map_eq_some_iff]
  constructor
  · rintro ⟨e, he, rfl⟩
    obtain ⟨h1, h2, h3⟩ := (look_iff h).1 he
    exact ⟨e.fPrefix, tget_mem h h1, h2, fun q' v' g c => h3 _ (tget_some g) c⟩
  · rintro ⟨q, h1, h2, h3⟩
    refine ⟨api_Entry.mk q v, (look_iff h).2 ⟨tget_some h1, h2, fun x hx c => h3 _ _ (tget_mem h hx) c⟩, rfl⟩
theorem val_none {t : List api_Entry} (h : TV t) {a : api_Addr} : valL t a = none ↔ LN (tget t) a := by
  unfold valL
  rw [Option.map_eq_none_iff, look_none]
  constructor
  · intro g q v e
    exact g _ (tget_some e)
  · intro g x hx
    exact g _ _ (tget_mem h hx)
theorem val_levels {t r : List api_Entry} (h : TV t) (hr : TV r) (e : tget r = JJ 128 (tget t)) (a : api_Addr) : valL r a = valL t a := by
  cases g : valL t a with
  | none => rw [val_none hr, e]; exact ln_JJ _ (tget_dom h) ((val_none h).1 g)
  | some v => rw [val_some hr, e]; exact lv_JJ _ (tget_dom h) ((val_some h).1 g)

-- the choice

theorem cont_lt {t : List api_Entry} (h : TV t) {x y : api_Entry} (hx : x ∈ t) (hy : y ∈ t) (hp : pLt x.fPrefix y.fPrefix) {a : api_Addr} (cx : ContF x.fPrefix a = true) (cy : ContF y.fPrefix a = true) : x.fPrefix.fLen < y.fPrefix.fLen := by
  by_cases l : x.fPrefix.fLen < y.fPrefix.fLen
  · exact l
  · rcases covers_le (h.1 y hy) (h.1 x hx) (nest (h.1 y hy) (h.1 x hx) cy cx (by omega)) with e | e
    · exact (pLt_ne hp e.symm).elim
    · exact (pLt_asym hp e).elim
theorem look_last {t : List api_Entry} (h : TV t) (a : api_Addr) : LookF t a = (t.filter fun x => ContF x.fPrefix a).getLast? := by
  rcases List.eq_nil_or_concat (t.filter fun x => ContF x.fPrefix a) with e | ⟨l, y, e⟩
  · rw [e]
    refine look_none.2 fun x hx => ?_
    have := List.filter_eq_nil_iff.1 e x hx
    exact this
  · rw [List.concat_eq_append] at e
    rw [e, List.getLast?_concat]
    have hf := (filter_V (fun x => ContF x.fPrefix a) h).2
    have hm : ∀ x, x ∈ l ++ [y] → x ∈ t ∧ ContF x.fPrefix a = true := fun x hx => by rw [← e] at hx; exact List.mem_filter.1 hx
    rw [e, List.pairwise_append] at hf
    have hy := hm y (by simp)
    refine (look_iff h).2 ⟨hy.1, hy.2, fun x hx c => ?_⟩
    have hx' : x ∈ l ++ [y] := by rw [← e]; exact List.mem_filter.2 ⟨hx, c⟩
    rcases List.mem_append.1 hx' with g | g
    · exact Int.le_of_lt (cont_lt h hx hy.1 (hf.2.2 x g y (List.mem_singleton.2 rfl)) c hy.2)
    · rw [List.mem_singleton.1 g]; exact Int.le_refl _
theorem above_chain {t : List api_Entry} (h : TV t) {a : api_Addr} {A B : List api_Entry} {x : api_Entry} (e : (t.filter fun y => ContF y.fPrefix a) = A ++ x :: B) : above t x = A := by
  have hf := (filter_V (fun x => ContF x.fPrefix a) h).2
  have hm : ∀ y, y ∈ A ++ x :: B → y ∈ t ∧ ContF y.fPrefix a = true := fun y hy => by rw [← e] at hy; exact List.mem_filter.1 hy
  have hx := hm x (by simp)
  have hxv := h.1 x hx.1
  have e1 : above t x = (t.filter fun y => ContF y.fPrefix a).filter fun y => (!(peq y.fPrefix x.fPrefix)) && CoversF y.fPrefix x.fPrefix := by
    rw [List.filter_filter]
    unfold above
    refine List.filter_congr fun y hy => ?_
    cases c : ((!(peq y.fPrefix x.fPrefix)) && CoversF y.fPrefix x.fPrefix) with
    | false => rfl
    | true =>
      simp only [Bool.and_eq_true] at c
      rw [covers_cont (h.1 y hy) hxv c.2 hx.2]; rfl
  rw [e1, e]
  rw [e, List.pairwise_append] at hf
  have e2 : A.filter (fun y => (!(peq y.fPrefix x.fPrefix)) && CoversF y.fPrefix x.fPrefix) = A := List.filter_eq_self.2 fun y hy => by
    have hp := hf.2.2 y hy x List.mem_cons_self
    have hy' := hm y (by simp [hy])
    have c1 : peq y.fPrefix x.fPrefix = false := by
      cases c : peq y.fPrefix x.fPrefix with
      | false => rfl
      | true => exact (pLt_ne hp (peq_iff.1 c)).elim
    rw [c1, nest (h.1 y hy'.1) hxv hy'.2 hx.2 (Int.le_of_lt (cont_lt h hy'.1 hx.1 hp hy'.2 hx.2))]; rfl
  have e3 : (x :: B).filter (fun y => (!(peq y.fPrefix x.fPrefix)) && CoversF y.fPrefix x.fPrefix) = [] := List.filter_eq_nil_iff.2 fun y hy c => by
    simp only [Bool.and_eq_true, Bool.not_eq_true'] at c
    have hy' := hm y (by simp only [List.mem_append]; exact .inr hy)
    rcases covers_le (h.1 y hy'.1) hxv c.2 with g | g
    · rw [peq_iff.2 g] at c; cases c.1
    · rcases List.mem_cons.1 hy with rfl | hy
      · exact pLt_irr _ g
      · exact pLt_asym ((List.pairwise_cons.1 hf.2.1).1 y hy) g
  rw [List.filter_append, e2, e3, List.append_nil]
/-- the choice changes no answer -/
theorem val_choice {r : List api_Entry} (h : TV r) (a : api_Addr) : valL (AggL r) a = valL r a := by
  unfold valL
  rw [look_last (agg_V h), look_last h]
  unfold AggL
  have comm : ((r.filter (keepA r)).filter fun x => ContF x.fPrefix a) = (r.filter fun x => ContF x.fPrefix a).filter (keepA r) := by
    rw [List.filter_filter, List.filter_filter]
    exact List.filter_congr fun x _ => Bool.and_comm _ _
  rw [comm]
  have key : ∀ A B, (r.filter fun x => ContF x.fPrefix a) = A ++ B → (A.filter (keepA r)).getLast?.map api_Entry.fValue = A.getLast?.map api_Entry.fValue := by
    refine snoc_ind (fun _ _ => rfl) fun A x ih B e => ?_
    have e' : (r.filter fun x => ContF x.fPrefix a) = A ++ x :: B := by rw [e]; simp
    have ih := ih (x :: B) e'
    have hA := above_chain h e'
    rw [List.filter_append, List.getLast?_concat]
    cases k : keepA r x with
    | true =>
      have : [x].filter (keepA r) = [x] := by rw [List.filter_cons, k]; rfl
      rw [this, List.getLast?_concat]
    | false =>
      have : [x].filter (keepA r) = [] := by rw [List.filter_cons, k]; rfl
      rw [this, List.append_nil, ih]
      unfold keepA at k
      rw [hA] at k
      cases g : A.getLast? with
      | none => rw [g] at k; cases k
      | some y =>
        rw [g] at k
        simp only [bne_eq_false_iff_eq] at k
        rw [Option.map_some, Option.map_some, k]
  exact key _ [] (by rw [List.append_nil])
end Go.Proofs.Ytbkhigkknhlmhaa

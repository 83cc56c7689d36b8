/- Chapter 38 in plain Lean: putting a cell; the map and the list -/
import Derived.Test.YtpdfmjkfplgkfaaPureH
namespace Go.Proofs.Ytpdfmjkfplgkfaa
open Go Go.Vc

def cLt (a b : api_Cell) : Prop := a.fFrom < b.fFrom ∨ (a.fFrom = b.fFrom ∧ a.fTo < b.fTo)
instance (a b : api_Cell) : Decidable (cLt a b) := by unfold cLt; infer_instance
theorem less_eq (a b : api_Cell) : exchangepointref38_less a b = some (decide (cLt a b)) := by
  unfold exchangepointref38_less jn cLt
  by_cases h : a.fFrom < b.fFrom
  · simp [h]
  · by_cases e : a.fFrom = b.fFrom
    · simp [e]
    · simp [h, e]
def mixC (c x : api_Cell) : api_Cell := api_Cell.mk c.fFrom c.fTo (w64 (c.fSamples + x.fSamples)) (w64 (c.fBytes + x.fBytes))
def PutL : List api_Cell → api_Cell → List api_Cell
  | [], c => [c]
  | x :: l, c => if cLt x c then x :: PutL l c else if cLt c x then c :: x :: l else mixC c x :: l
theorem put_split (c : api_Cell) : ∀ (k : Nat) (l : List api_Cell), k ≤ l.length → (∀ x ∈ l.take k, cLt x c) → PutL l c = l.take k ++ PutL (l.drop k) c
  | 0, l, _, _ => by simp
  | k + 1, [], h, _ => by simp at h
  | k + 1, x :: l, h, hx => by
    rw [List.take_succ_cons, List.drop_succ_cons]
    have h1 : cLt x c := hx x (by rw [List.take_succ_cons]; exact List.mem_cons_self)
    rw [PutL, if_pos h1, put_split c k l (by simpa using h) (fun y hy => hx y (by rw [List.take_succ_cons]; exact List.mem_cons_of_mem _ hy))]
    rfl
theorem putL_len (c : api_Cell) : ∀ l : List api_Cell, (PutL l c).length ≤ l.length + 1
  | [] => by simp [PutL]
  | x :: l => by
    have := putL_len c l
    unfold PutL
    split
    · simp; omega
    · split <;> simp
theorem put_eq (l : List api_Cell) (c : api_Cell) (hl : l.length ≤ 3000000000) : exchangepointref38_put l c = some (PutL l c) := by
  refine Tot.eq ?_
  unfold exchangepointref38_put
  refine Tot.bindLoop (fun s : Int => ∃ k : Nat, s = (k : Int) ∧ k ≤ l.length ∧ ∀ x ∈ l.take k, cLt x c) (fun s => l.length - s.toNat) (fun s : Int => ∃ k : Nat, s = (k : Int) ∧ k ≤ l.length ∧ (∀ x ∈ l.take k, cLt x c) ∧ ∀ h : k < l.length, ¬ cLt l[k] c) ⟨0, rfl, Nat.zero_le _, by simp⟩ ?_ ?_
  · rintro s ⟨k, rfl, hk, hall⟩
    unfold exchangepointref38_put_L0
    refine Tot.jn (Tot.ite (fun h => ?_) (fun h => ?_))
    · have hlt : k < l.length := by simpa using h
      refine Tot.bindIdx k rfl hlt (Tot.bindOf (less_eq _ _) ?_)
      refine Tot.ite (fun h2 => ?_) (fun h2 => ?_)
      · have hc : cLt l[k] c := by simpa using h2
        have hw : w64 ((k : Int) + 1) = ((k + 1 : Nat) : Int) := by rw [w64_id (by omega) (by omega)]; rfl
        rw [hw]
        refine Tot.next ⟨k + 1, rfl, hlt, fun x hx => ?_⟩ (by simp only [Int.toNat_natCast]; omega)
        rw [take_snoc hlt] at hx
        rcases List.mem_append.1 hx with hx | hx
        · exact hall x hx
        · rw [List.mem_singleton.1 hx]; exact hc
      · exact Tot.out ⟨k, rfl, hk, hall, fun _ => by simpa using h2⟩
    · refine Tot.iteF rfl (Tot.out ⟨k, rfl, hk, hall, fun hlt => ?_⟩)
      simp at h; omega
  · rintro s ⟨k, rfl, hk, hall, hnot⟩
    have hsp := put_split c k l hk hall
    simp only [Int.toNat_natCast, List.drop_zero, List.take_length]
    refine Tot.chk (by simp; omega) (Tot.chk (limB (by simp; omega)) ?_)
    have tailF : (∀ h : k < l.length, cLt c l[k]) → Tot (chk (decide ((l.take k ++ ([c] : List api_Cell)).length ≤ LIM)) <| chk ((decide (0 ≤ (k : Int)) && decide (k ≤ l.length) && decide (l.length ≤ l.length))) <| chk (decide (((l.take k ++ ([c] : List api_Cell)) ++ (l.drop k)).length ≤ LIM)) <| some ((l.take k ++ ([c] : List api_Cell)) ++ (l.drop k))) (fun x => x = PutL l c) := fun hc => by
      refine Tot.chk (limB (by simp; omega)) (Tot.chk (by simp; omega) (Tot.chk (limB (by simp; omega)) (Tot.some ?_)))
      rw [hsp, List.append_assoc]
      congr 1
      cases hd : l.drop k with
      | nil => rfl
      | cons x r =>
        have hlt : k < l.length := by
          rcases Nat.lt_or_ge k l.length with h | h
          · exact h
          · rw [List.drop_eq_nil_of_le h] at hd; cases hd
        rw [List.drop_eq_getElem_cons hlt] at hd
        cases hd
        rw [PutL, if_neg (hnot hlt), if_pos (hc hlt)]
        rfl
    refine Tot.jn (Tot.ite (fun h => ?_) (fun h => ?_))
    · have hlt : k < l.length := by simpa using h
      refine Tot.bindIdx k rfl hlt (Tot.bindOf (less_eq _ _) ?_)
      refine Tot.ite (fun h2 => ?_) (fun h2 => ?_)
      · have hc : ¬ cLt c l[k] := by simpa using h2
        have hw : w64 ((k : Int) + 1) = ((k + 1 : Nat) : Int) := by rw [w64_id (by omega) (by omega)]; rfl
        rw [hw]
        simp only [Int.toNat_natCast]
        refine Tot.bindIdx k rfl hlt (Tot.bindIdx k rfl hlt (Tot.chk (limB (by simp; omega)) (Tot.chk (by simp; omega) (Tot.chk (limB (by simp; omega)) (Tot.some ?_)))))
        rw [hsp, List.append_assoc]
        congr 1
        rw [List.drop_eq_getElem_cons hlt, PutL, if_neg (hnot hlt), if_neg hc]
        rfl
      · exact tailF fun _ => by simpa using h2
    · refine Tot.iteF rfl (tailF fun hlt => ?_)
      simp at h; omega

theorem key85 : KeyLaw keq85 := fun a b => by
  obtain ⟨a1, a2⟩ := a
  obtain ⟨b1, b2⟩ := b
  simp [keq85]
abbrev keyOf (c : api_Cell) : matrix_pair := matrix_pair.mk c.fFrom c.fTo
/-- a map and a sorted list of the same cells -/
structure Rel (m : List (matrix_pair × api_Cell)) (l : List api_Cell) : Prop where
  sorted : l.Pairwise cLt
  nodup : (mkeys m).Nodup
  own : ∀ k c, mget keq85 m k = some c → keyOf c = k
  mem : ∀ c, c ∈ l ↔ mget keq85 m (keyOf c) = some c
theorem rel_nil : Rel [] [] where
  sorted := List.Pairwise.nil
  nodup := List.Pairwise.nil
  own := fun k c h => by cases h
  mem := fun c => ⟨fun h => (by cases h), fun h => (by cases h)⟩
theorem cLt_trans {a b c : api_Cell} (h : cLt a b) (k : cLt b c) : cLt a c := by unfold cLt at *; omega
theorem cLt_irr (a : api_Cell) : ¬ cLt a a := by unfold cLt; omega
theorem cLt_key {a b : api_Cell} (h1 : ¬ cLt a b) (h2 : ¬ cLt b a) : keyOf a = keyOf b := by
  unfold cLt at *
  have e1 : a.fFrom = b.fFrom := by omega
  have e2 : a.fTo = b.fTo := by omega
  simp only [keyOf, e1, e2]
theorem key_cLt {a b : api_Cell} (h : keyOf a = keyOf b) : ¬ cLt a b := by
  simp only [keyOf, matrix_pair.mk.injEq] at h
  unfold cLt; omega
/-- the cell that put leaves at the key -/
def newL : List api_Cell → api_Cell → api_Cell
  | [], c => c
  | x :: l, c => if cLt x c then newL l c else if cLt c x then c else mixC c x
theorem newL_key (c : api_Cell) : ∀ l, keyOf (newL l c) = keyOf c
  | [] => rfl
  | x :: l => by
    unfold newL
    split
    · exact newL_key c l
    · split <;> rfl
theorem putL_mem (c : api_Cell) : ∀ {l : List api_Cell}, l.Pairwise cLt → ∀ x, x ∈ PutL l c ↔ (x ∈ l ∧ keyOf x ≠ keyOf c) ∨ x = newL l c
  | [], _, x => by simp [PutL, newL]
  | y :: l, hl, x => by
    rw [List.pairwise_cons] at hl
    have ih := putL_mem c hl.2 x
    unfold PutL newL
    by_cases h1 : cLt y c
    · rw [if_pos h1, if_pos h1, List.mem_cons, ih, List.mem_cons]
      have hk : keyOf y ≠ keyOf c := fun e => key_cLt e h1
      constructor
      · rintro (rfl | ⟨g1, g2⟩ | g)
        · exact .inl ⟨.inl rfl, hk⟩
        · exact .inl ⟨.inr g1, g2⟩
        · exact .inr g
      · rintro (⟨rfl | g1, g2⟩ | g)
        · exact .inl rfl
        · exact .inr (.inl ⟨g1, g2⟩)
        · exact .inr (.inr g)
    · rw [if_neg h1, if_neg h1]
      by_cases h2 : cLt c y
      · rw [if_pos h2, if_pos h2, List.mem_cons]
        constructor
        · rintro (rfl | g)
          · exact .inr rfl
          · refine .inl ⟨g, fun e => ?_⟩
            rcases List.mem_cons.1 g with rfl | g
            · exact key_cLt e.symm h2
            · exact key_cLt e.symm (cLt_trans h2 (hl.1 x g))
        · rintro (⟨g, _⟩ | g)
          · exact .inr g
          · exact .inl g
      · rw [if_neg h2, if_neg h2, List.mem_cons, List.mem_cons]
        have hky : keyOf y = keyOf c := cLt_key h1 h2
        constructor
        · rintro (rfl | g)
          · exact .inr rfl
          · exact .inl ⟨.inr g, fun e => key_cLt (hky.trans e.symm) (hl.1 x g)⟩
        · rintro (⟨rfl | g, g2⟩ | g)
          · exact (g2 hky).elim
          · exact .inr g
          · exact .inl g
theorem cLt_of_key {a a' b : api_Cell} (h : keyOf a = keyOf a') (hb : cLt a b) : cLt a' b := by
  simp only [keyOf, matrix_pair.mk.injEq] at h
  unfold cLt at *; omega
theorem cLt_of_key' {a b b' : api_Cell} (h : keyOf b = keyOf b') (hb : cLt a b) : cLt a b' := by
  simp only [keyOf, matrix_pair.mk.injEq] at h
  unfold cLt at *; omega
theorem putL_sorted (c : api_Cell) : ∀ {l : List api_Cell}, l.Pairwise cLt → (PutL l c).Pairwise cLt
  | [], _ => by simp [PutL]
  | y :: l, hl => by
    have hl' := hl
    rw [List.pairwise_cons] at hl
    unfold PutL
    by_cases h1 : cLt y c
    · rw [if_pos h1, List.pairwise_cons]
      refine ⟨fun x hx => ?_, putL_sorted c hl.2⟩
      rcases (putL_mem c hl.2 x).1 hx with ⟨g, _⟩ | g
      · exact hl.1 x g
      · exact cLt_of_key' (by rw [g]; exact (newL_key c l).symm) h1
    · rw [if_neg h1]
      by_cases h2 : cLt c y
      · rw [if_pos h2, List.pairwise_cons]
        refine ⟨fun x hx => ?_, hl'⟩
        rcases List.mem_cons.1 hx with rfl | hx
        · exact h2
        · exact cLt_trans h2 (hl.1 x hx)
      · rw [if_neg h2, List.pairwise_cons]
        exact ⟨fun x hx => cLt_of_key (cLt_key h1 h2) (hl.1 x hx), hl.2⟩
theorem newL_old (c old : api_Cell) (hk : keyOf old = keyOf c) : ∀ {l : List api_Cell}, l.Pairwise cLt → old ∈ l → newL l c = mixC c old
  | [], _, h => by cases h
  | y :: l, hl, h => by
    rw [List.pairwise_cons] at hl
    unfold newL
    rcases List.mem_cons.1 h with rfl | h
    · rw [if_neg (key_cLt hk), if_neg (key_cLt hk.symm)]
    · have h1 : cLt y c := cLt_of_key' hk (hl.1 old h)
      rw [if_pos h1]
      exact newL_old c old hk hl.2 h
theorem newL_none (c : api_Cell) : ∀ {l : List api_Cell}, (∀ x ∈ l, keyOf x ≠ keyOf c) → newL l c = c
  | [], _ => rfl
  | y :: l, h => by
    unfold newL
    split
    · exact newL_none c fun x hx => h x (List.mem_cons_of_mem _ hx)
    · split
      · rfl
      · rename_i h1 h2
        exact (h y List.mem_cons_self (cLt_key h1 h2)).elim
open Classical in
theorem rel_put {m : List (matrix_pair × api_Cell)} {l : List api_Cell} {c : api_Cell} (h : Rel m l) (hs : I64 c.fSamples) (hb : I64 c.fBytes) : ∃ m', matrix_put m c = some m' ∧ Rel m' (PutL l c) := by
  refine ⟨_, rfl, ?_⟩
  have hnew : (api_Cell.mk c.fFrom c.fTo (w64 (((mget keq85 m (keyOf c)).getD (api_Cell.mk 0 0 0 0)).fSamples + c.fSamples)) (w64 (((mget keq85 m (keyOf c)).getD (api_Cell.mk 0 0 0 0)).fBytes + c.fBytes))) = newL l c := by
    cases hg : mget keq85 m (keyOf c) with
    | none =>
      have hno : ∀ x ∈ l, keyOf x ≠ keyOf c := fun x hx e => by
        have := (h.mem x).1 hx
        rw [e, hg] at this
        cases this
      rw [newL_none c hno]
      unfold I64 IntKind.min IntKind.max at hs hb
      simp [IntKind.bits, IntKind.signed] at hs hb
      simp only [Option.getD_none, Int.zero_add]
      rw [w64_id (by omega) (by omega), w64_id (by omega) (by omega)]
    | some old =>
      have hk := h.own _ _ hg
      have hm : old ∈ l := (h.mem old).2 (by rw [hk]; exact hg)
      rw [newL_old c old hk h.sorted hm]
      simp only [Option.getD_some, mixC, Int.add_comm]
  show Rel (mput keq85 m (keyOf c) _) _
  rw [hnew]
  refine ⟨putL_sorted c h.sorted, mkeys_nodup key85 _ _ h.nodup, fun k x hx => ?_, fun x => ?_⟩
  · rw [mget_mput key85] at hx
    split at hx
    · rename_i e
      cases hx
      rw [e]; exact newL_key c l
    · exact h.own k x hx
  · rw [putL_mem c h.sorted, mget_mput key85]
    by_cases e : keyOf x = keyOf c
    · rw [if_pos e]
      constructor
      · rintro (⟨_, g⟩ | g)
        · exact (g e).elim
        · rw [g]
      · exact fun g => .inr (Option.some.inj g).symm
    · rw [if_neg e, ← h.mem]
      constructor
      · rintro (⟨g, _⟩ | g)
        · exact g
        · exact (e (by rw [g]; exact newL_key c l)).elim
      · exact fun g => .inl ⟨g, e⟩

theorem fold_listed : ∀ (p : List (matrix_pair × api_Cell)) (s : List api_Cell), s.length + p.length ≤ 4000000000 → foldS matrix_listed_L0 s p = some (s ++ p.map (·.2))
  | [], s, _ => by simp [foldS]
  | q :: p, s, h => by
    simp only [List.length_cons] at h
    unfold foldS
    refine bind_of (x := s ++ [q.2]) ?_ ?_
    · unfold matrix_listed_L0
      exact chk_of (limB (by simp; omega)) rfl
    · rw [fold_listed p (s ++ [q.2]) (by simp; omega)]
      simp
def num (n : Int) : Prop := 1 ≤ n ∧ n ≤ 4294967295
def cnum (c : api_Cell) : Prop := num c.fFrom ∧ num c.fTo
theorem compare_eq {a b : api_Cell} (ha : cnum a) (hb : cnum b) : matrix_compare a b = some (if a.fFrom ≠ b.fFrom then a.fFrom - b.fFrom else a.fTo - b.fTo) := by
  unfold cnum num at ha hb
  unfold matrix_compare
  by_cases e : a.fFrom = b.fFrom
  · refine ite_of_f (by simp [e]) ?_
    rw [if_neg (by simp [e]), w64_id (by omega) (by omega)]
  · refine ite_of_t (by simp [e]) ?_
    rw [if_pos e, w64_id (by omega) (by omega)]
def cmpC (a b : api_Cell) : Int := if a.fFrom ≠ b.fFrom then a.fFrom - b.fFrom else a.fTo - b.fTo
theorem cmpC_lt (a b : api_Cell) : cmpC a b < 0 ↔ cLt a b := by
  unfold cmpC cLt
  split <;> omega
theorem listed_eq {m : List (matrix_pair × api_Cell)} {l : List api_Cell} (h : Rel m l) (hnum : ∀ c ∈ l, cnum c) (hm : m.length ≤ 4000000000) : matrix_listed m = some l := by
  unfold matrix_listed
  refine mapAll_of fun p hp => ?_
  have hpl : p.length = m.length := hp.length_eq
  refine bind_of (fold_listed p [] (by simp; omega)) ?_
  rw [List.nil_append]
  have hmem : ∀ c, c ∈ p.map (·.2) ↔ c ∈ l := fun c => by
    rw [h.mem, mget_some key85 h.nodup]
    constructor
    · intro hc
      obtain ⟨q, hq, rfl⟩ := List.mem_map.1 hc
      have hq' : (q.1, q.2) ∈ m := hp.mem_iff.1 hq
      have hg := (mget_some key85 h.nodup).2 hq'
      have := h.own _ _ hg
      rw [this]; exact hq'
    · intro hc
      exact List.mem_map.2 ⟨_, hp.mem_iff.2 hc, rfl⟩
  have hn : ∀ c ∈ p.map (·.2), cnum c := fun c hc => hnum c ((hmem c).1 hc)
  obtain ⟨r, hr, hperm, hsort⟩ := sortF_tot (xs := p.map (·.2)) (cmp := fun x y => matrix_compare x y) cmpC (fun x hx y hy => compare_eq (hn x hx) (hn y hy)) (fun x _ => by rw [cmpC_lt]; exact cLt_irr x)
    (fun x _ y _ z _ h1 h2 => by rw [cmpC_lt] at *; exact cLt_trans h1 h2) (fun x _ y _ z _ h1 h2 => by rw [cmpC_lt] at *; unfold cLt at *; omega) (by simp; omega)
  refine bind_of (show ext47_slices_SortFunc_matrix_compare _ = some r from hr) ?_
  have hlen := hperm.length_eq
  refine chk_of (by simp [hlen]) ?_
  rw [List.drop_zero, List.take_of_length_le (by omega)]
  congr 1
  -- apart: the values of a map stand at different keys
  have hnd : (p.map (·.2)).Pairwise (fun a b => keyOf a ≠ keyOf b) := by
    have h1 : (mkeys p).Nodup := (show (mkeys p).Perm (mkeys m) from hp.map _).nodup_iff.2 h.nodup
    unfold mkeys at h1
    rw [List.Nodup, List.pairwise_map] at h1
    rw [List.pairwise_map]
    refine h1.imp_of_mem fun {a b} ha hb hab e => hab ?_
    have ga := h.own _ _ ((mget_some key85 h.nodup).2 (show (a.1, a.2) ∈ m from hp.mem_iff.1 ha))
    have gb := h.own _ _ ((mget_some key85 h.nodup).2 (show (b.1, b.2) ∈ m from hp.mem_iff.1 hb))
    rw [← ga, ← gb]; exact e
  have hnd2 : r.Pairwise (fun a b => keyOf a ≠ keyOf b) := hperm.symm.pairwise hnd (fun {a b} hab => Ne.symm hab)
  have hs2 : r.Pairwise cLt := by
    refine (List.Pairwise.and hsort hnd2).imp fun {a b} ⟨h1, h2⟩ => ?_
    rw [cmpC_lt] at h1
    by_cases h3 : cLt a b
    · exact h3
    · exact (h2 (cLt_key h3 h1)).elim
  exact sorted_unique (fun x y h1 h2 => cLt_irr x (cLt_trans h1 h2)) hs2 h.sorted fun x => by rw [hperm.mem_iff]; exact hmem x

end Go.Proofs.Ytpdfmjkfplgkfaa

/- Objects in order, and payloads, in plain Lean. -/
import Derived.Test.YtgfoabcickjphaaGreatDoorPureD
namespace Go.Proofs.YtgfoabcickjphaaGreatDoor
open Go Go.Vc
section
variable {α : Type} [DecidableEq α]
def dd (l : List α) : List α := l.foldl (fun acc x => if acc.getLast? = some x then acc else acc ++ [x]) []
theorem dd_snoc (l : List α) (x : α) : dd (l ++ [x]) = if (dd l).getLast? = some x then dd l else dd l ++ [x] := by
 unfold dd
 rw [List.foldl_append]
 rfl
theorem dd_last : ∀ l : List α, (dd l).getLast? = l.getLast? := by
 refine snoc_ind ?_ ?_
 ·rfl
 ·intro l x ih
  rw [dd_snoc, List.getLast?_concat]
  by_cases h : (dd l).getLast? = some x
  ·rw [if_pos h]; exact h
  ·rw [if_neg h, List.getLast?_concat]
theorem dd_mem : ∀ (l : List α) (x : α), x ∈ dd l ↔ x ∈ l := by
 refine snoc_ind (Q := fun l => ∀ x, x ∈ dd l ↔ x ∈ l) ?_ ?_
 ·intro x; exact Iff.rfl
 ·intro l y ih x
  rw [dd_snoc, List.mem_append, List.mem_singleton]
  by_cases h : (dd l).getLast? = some y
  ·rw [if_pos h, ih]
   refine ⟨.inl, fun e => e.elim id fun e => ?_⟩
   rw [e, ← ih]
   exact List.mem_of_getLast? h
  ·rw [if_neg h, List.mem_append, List.mem_singleton, ih]
theorem dd_len : ∀ l : List α, (dd l).length ≤ l.length := by
 refine snoc_ind ?_ ?_
 ·exact Nat.le_refl _
 ·intro l y ih
  rw [dd_snoc, List.length_append, List.length_singleton]
  split
  ·omega
  ·rw [List.length_append, List.length_singleton]; omega
theorem dd_nodup {r : α → α → Prop} (ht : ∀ x y z, r x y → r y z → r x z) (ha : ∀ x y, r x y → r y x → x = y) : ∀ l : List α, l.Pairwise r → (dd l).Nodup := by
 refine snoc_ind (Q := fun l => l.Pairwise r → (dd l).Nodup) ?_ ?_
 ·intro _; exact List.nodup_nil
 ·intro l y ih hp
  obtain ⟨p1, _, p3⟩ := List.pairwise_append.1 hp
  have hn := ih p1
  rw [dd_snoc]
  by_cases h : (dd l).getLast? = some y
  ·rw [if_pos h]; exact hn
  ·rw [if_neg h]
   refine List.nodup_append.2 ⟨hn, by simp, fun a ha1 b hb e => ?_⟩
   rw [List.mem_singleton] at hb
   subst hb
   subst e
   -- it stands in l, so the last one is it
   have hm := (dd_mem l a).1 ha1
   rcases List.eq_nil_or_concat l with e | ⟨l', z, e⟩
   ·subst e; cases hm
   ·rw [List.concat_eq_append] at e
    subst e
    rw [dd_last, List.getLast?_concat] at h
    have hz : r z a := p3 z (by simp) a (by simp)
    rcases List.mem_append.1 hm with g | g
    ·have : r a z := (List.pairwise_append.1 p1).2.2 a g z (by simp)
     exact h (by rw [ha z a hz this])
    ·rw [List.mem_singleton] at g
     exact h (by rw [g])
end
instance : DecidableEq aAddr := fun a b => decidable_of_iff (aeq a b = true) aeq_iff
instance : DecidableEq aPrefix := fun a b => decidable_of_iff (peq a b = true) peq_iff
def oeq (a b : aObject) : Bool := ((((a.fPrefix.fAddr.fV6 == b.fPrefix.fAddr.fV6) && ((a.fPrefix.fAddr.fHi == b.fPrefix.fAddr.fHi) && ((a.fPrefix.fAddr.fLo == b.fPrefix.fAddr.fLo) && true))) && ((a.fPrefix.fLen == b.fPrefix.fLen) && true)) && ((a.fMax == b.fMax) && ((a.fASN == b.fASN) && true)))
theorem oeq_iff {a b : aObject} : oeq a b = true ↔ a = b := by
 have e : oeq a b = (peq a.fPrefix b.fPrefix && ((a.fMax == b.fMax) && ((a.fASN == b.fASN) && true))) := rfl
 rw [e]
 simp only [Bool.and_true, Bool.and_eq_true, beq_iff_eq, peq_iff]
 constructor
 ·rintro ⟨h1, h2, h3⟩
  obtain ⟨p, m, n⟩ := a
  obtain ⟨p', m', n'⟩ := b
  simp only at h1 h2 h3
  rw [h1, h2, h3]
 ·rintro rfl
  exact ⟨rfl, rfl, rfl⟩
instance : DecidableEq aObject := fun a b => decidable_of_iff (oeq a b = true) oeq_iff
theorem cp_L1 {l : List aObject} {k : Nat} (hk : 1 ≤ k) (hkl : k < l.length) (hl : l.length ≤ 1000000) (h0 : dd (l.take (k + 1)) = l.take k) :
  Tot (loop (slices_Compact_L1 l (k : Int)) ((k : Int), (1 : Int), l)) (fun p => ∃ i : Nat, p.1 = i ∧ i ≤ l.length ∧ p.2.length = l.length ∧ p.2.take i = dd l) := by
 refine Tot.rng (l.length - k - 1) (fun m (b : Nat × List aObject) => ((b.1 : Int), ((m + 1 : Nat) : Int), b.2)) (fun m b => b.2.length = l.length ∧ b.1 ≤ k + m ∧ b.2.take b.1 = dd (l.take (k + m + 1)) ∧ ∀ j, k + m ≤ j → b.2[j]? = l[j]?) _ (k, l) rfl ⟨rfl, Nat.le_refl _, h0.symm, fun _ _ => rfl⟩ (fun m b hm hb => ?_) (fun b hb => ?_)
 ·obtain ⟨b1, b2, b3, b4⟩ := hb
  have hw : w64 (((m + 1 : Nat) : Int) + 1) = ((m + 1 + 1 : Nat) : Int) := by rw [w64_id (by omega) (by omega)]; rfl
  have hw2 : w64 (((m + 1 : Nat) : Int) - 1) = (m : Int) := by rw [w64_id (by omega) (by omega)]; omega
  have hdl : ((b.2.drop k).take (l.length - k)).length = l.length - k := by rw [List.length_take, List.length_drop]; omega
  have hj1 : k + m + 1 < l.length := by omega
  have hj0 : k + m < l.length := by omega
  have g1 : ((b.2.drop k).take (l.length - k))[m + 1]? = some l[k + m + 1] := by
   rw [List.getElem?_take_of_lt (by omega), List.getElem?_drop, show k + (m + 1) = k + m + 1 from rfl, b4 _ (by omega), List.getElem?_eq_getElem hj1]
  have g0 : ((b.2.drop k).take (l.length - k))[m]? = some l[k + m] := by
   rw [List.getElem?_take_of_lt (by omega), List.getElem?_drop, b4 _ (by omega), List.getElem?_eq_getElem hj0]
  have i1 : idx ((b.2.drop k).take (l.length - k)) ((m + 1 : Nat) : Int) = some l[k + m + 1] := idx_get g1
  have i0 : idx ((b.2.drop k).take (l.length - k)) (m : Int) = some l[k + m] := idx_get g0
  have hlast : (dd (l.take (k + m + 1))).getLast? = some l[k + m] := by
   rw [dd_last, take_snoc hj0, List.getLast?_concat]
  have htk : l.take (k + (m + 1) + 1) = l.take (k + m + 1) ++ [l[k + m + 1]] := take_snoc hj1
  unfold slices_Compact_L1
  simp only [Int.toNat_natCast]
  rw [hw, hw2]
  refine Tot.iteT (decide_eq_true (by omega)) (Tot.bindOf i1 (Tot.bindOf i1 (Tot.bindOf i0 (Tot.bindOf i0 ?_))))
  refine Tot.jnR (fun q : Int × List aObject => ∃ i : Nat, q.1 = i ∧ q.2.length = l.length ∧ i ≤ k + (m + 1) ∧ q.2.take i = dd (l.take (k + (m + 1) + 1)) ∧ ∀ j, k + (m + 1) ≤ j → q.2[j]? = l[j]?) (fun j hj => ?_) ?_
  ·rw [htk, dd_snoc, hlast] at hj
   refine Tot.ite (fun h => ?_) (fun h => hj _ ⟨b.1, rfl, b1, by omega, ?_, fun j hj => b4 j (by omega)⟩)
   ·have hne : ¬ l[k + m] = l[k + m + 1] := fun e => by
     have : oeq l[k + m + 1] l[k + m] = true := oeq_iff.2 e.symm
     have h : (!oeq l[k + m + 1] l[k + m]) = true := h
     rw [this] at h; cases h
    have hb : b.1 < b.2.length := by omega
    have hw3 : w64 ((b.1 : Int) + 1) = ((b.1 + 1 : Nat) : Int) := by rw [w64_id (by omega) (by omega)]; rfl
    refine Tot.bindOf i1 (Tot.bindOf i1 (Tot.bindIdx b.1 rfl hb (Tot.bindIdx b.1 rfl hb ?_)))
    rw [hw3]
    refine hj _ ⟨b.1 + 1, rfl, by simp only; rw [List.length_set]; exact b1, by omega, ?_, fun j hj => ?_⟩
    ·rw [if_neg (fun e => hne (Option.some.inj e)), ← b3]
     simp only
     rw [List.take_succ_eq_append_getElem (by rw [List.length_set]; exact hb), List.getElem_set_self, List.take_set_of_le (Nat.le_refl _)]
    ·simp only
     rw [List.getElem?_set, if_neg (by omega)]
     exact b4 j (by omega)
   ·have he : l[k + m] = l[k + m + 1] := by
     have h : (!oeq l[k + m + 1] l[k + m]) = false := h
     have h : oeq l[k + m + 1] l[k + m] = true := by simpa using h
     exact (oeq_iff.1 h).symm
    rw [if_pos (by rw [he])]
    exact b3
  ·rintro q ⟨i, q1, q2, q3, q4, q5⟩
   exact Tot.step (i, q.2) (by rw [q1]) ⟨q2, q3, q4, q5⟩
 ·obtain ⟨b1, b2, b3, b4⟩ := hb
  unfold slices_Compact_L1
  simp only [Int.toNat_natCast]
  refine Tot.iteF (decide_eq_false (by omega)) (Tot.last ⟨b.1, rfl, by omega, b1, ?_⟩)
  rw [show l.take (k + (l.length - k - 1) + 1) = l from List.take_of_length_le (by omega)] at b3
  exact b3
theorem compact_eq {l : List aObject} (hl : l.length ≤ 1000000) : slices_Compact l = some (dd l) := by
 refine Tot.eq ?_
 unfold slices_Compact
 refine Tot.ite (fun h => Tot.some ?_) (fun h => ?_)
 ·have h := of_decide_eq_true h
  match l, h with
  | [], _ => rfl
  | [x], _ => rfl
  | x :: y :: l, h => simp only [List.length_cons] at h; omega
 ·have h : ¬ ((l.length : Int) < 2) := of_decide_eq_false h
  have one : dd (l.take 1) = l.take 1 := by
   cases l with
   | nil => rfl
   | cons x l => rfl
  refine Tot.bindRng (l.length - 1) (fun m (_ : Unit) => ((m + 1 : Nat) : Int)) (fun m _ => dd (l.take (m + 1)) = l.take (m + 1)) (fun x => match x with | .inl r => r = dd l | .inr _ => l = dd l) () rfl one (fun m u hm hb => ?_) (fun u hb => ?_) (fun x hx => ?_)
  ·have hw : w64 (((m + 1 : Nat) : Int) + 1) = ((m + 1 + 1 : Nat) : Int) := by rw [w64_id (by omega) (by omega)]; rfl
   have hw2 : w64 (((m + 1 : Nat) : Int) - 1) = (m : Int) := by rw [w64_id (by omega) (by omega)]; omega
   have hj1 : m + 1 < l.length := by omega
   have hj0 : m < l.length := by omega
   have hlast : (dd (l.take (m + 1))).getLast? = some l[m] := by
    rw [dd_last, take_snoc hj0, List.getLast?_concat]
   have htk : l.take (m + 1 + 1) = l.take (m + 1) ++ [l[m + 1]] := take_snoc hj1
   unfold slices_Compact_L0
   rw [hw, hw2]
   refine Tot.iteT (decide_eq_true (by omega)) (Tot.bindIdx (m + 1) rfl hj1 (Tot.bindIdx (m + 1) rfl hj1 (Tot.bindIdx m rfl hj0 (Tot.bindIdx m rfl hj0 (Tot.ite (fun h2 => ?_) (fun h2 => Tot.step () rfl ?_))))))
   ·have he : l[m + 1] = l[m] := oeq_iff.1 h2
    have hd : dd (l.take (m + 1 + 1)) = l.take (m + 1) := by
     rw [htk, dd_snoc, hlast, if_pos (by rw [he]), hb]
    refine Tot.chk (by simp; omega) (Tot.bindT (cp_L1 (k := m + 1) (by omega) hj1 hl hd) ?_)
    rintro p ⟨i, p1, p2, p3, p4⟩
    rw [p1, Int.toNat_natCast]
    refine Tot.chk (by simp; omega) (Tot.chk (by simp; omega) (Tot.chk (by simp; omega) (Tot.chk (by simp; omega) (Tot.stop ?_))))
    rw [← p4, List.append_assoc, List.take_append_of_le_length (by rw [List.length_take]; omega), List.take_take, Nat.min_self]
   ·have hne : ¬ l[m] = l[m + 1] := fun e => by
     have h3 : oeq l[m + 1] l[m] = true := oeq_iff.2 e.symm
     have h2 : oeq l[m + 1] l[m] = false := h2
     rw [h3] at h2; cases h2
    rw [htk, dd_snoc, hlast, if_neg (fun e => hne (Option.some.inj e)), hb]
  ·unfold slices_Compact_L0
   refine Tot.iteF (decide_eq_false (by omega)) (Tot.last ?_)
   rw [List.take_of_length_le (by omega)] at hb
   exact hb.symm
  ·cases x with
   | inl r => exact Tot.some hx
   | inr _ => exact Tot.some hx
def oLt (x y : aObject) : Prop := pLt x.fPrefix y.fPrefix ∨ (x.fPrefix = y.fPrefix ∧ (x.fMax < y.fMax ∨ (x.fMax = y.fMax ∧ x.fASN < y.fASN)))
theorem oLt_irr (x : aObject) : ¬ oLt x x := by
 rintro (h | ⟨_, h⟩)
 ·exact pLt_irr _ h
 ·omega
theorem oLt_trans {x y z : aObject} (hx : aR x.fPrefix.fAddr) (hy : aR y.fPrefix.fAddr) (hz : aR z.fPrefix.fAddr) (h : oLt x y) (k : oLt y z) : oLt x z := by
 rcases h with h | ⟨h1, h2⟩ <;> rcases k with k | ⟨k1, k2⟩
 ·exact .inl (pLt_trans hx hy hz h k)
 ·exact .inl (by rw [← k1]; exact h)
 ·exact .inl (by rw [h1]; exact k)
 ·exact .inr ⟨h1.trans k1, by omega⟩
theorem oLt_tri {x y : aObject} (hx : aR x.fPrefix.fAddr) (hy : aR y.fPrefix.fAddr) (h1 : ¬ oLt x y) (h2 : ¬ oLt y x) : x = y := by
 have e := pLt_tri hx hy (fun e => h1 (.inl e)) (fun e => h2 (.inl e))
 have a : ¬ (x.fMax < y.fMax ∨ (x.fMax = y.fMax ∧ x.fASN < y.fASN)) := fun g => h1 (.inr ⟨e, g⟩)
 have b : ¬ (y.fMax < x.fMax ∨ (y.fMax = x.fMax ∧ y.fASN < x.fASN)) := fun g => h2 (.inr ⟨e.symm, g⟩)
 obtain ⟨p, m, n⟩ := x
 obtain ⟨p', m', n'⟩ := y
 simp only at e a b
 rw [e, show m = m' by omega, show n = n' by omega]
theorem compare_obj {x y : aObject} (hx : aR x.fPrefix.fAddr) (hy : aR y.fPrefix.fAddr) : ∃ z, irr_Compare x y = some z ∧ (z < 0 ↔ oLt x y) := by
 unfold irr_Compare
 suffices h : Tot ((prefix_Cmp x.fPrefix y.fPrefix).bind fun r1 => (cmp_Compare x.fMax y.fMax).bind fun r2 => (cmp_Compare x.fASN y.fASN).bind fun r3 => (cmp_Or [r1, r2, r3]).bind fun r4 => some r4) (fun z => z < 0 ↔ oLt x y) from h
 refine Tot.bindOf (pcmp_eq hx hy) (Tot.bindOf (compare_eq _ _) (Tot.bindOf (compare_eq _ _) (Tot.bindOf (or_eq _ (by simp)) (Tot.some ?_))))
 have c0 := cmpP_lt x.fPrefix y.fPrefix
 have c1 := cmpP_zero hx hy
 unfold oLt
 rw [← c0, ← c1]
 generalize cmpP x.fPrefix y.fPrefix = a
 have key : ∀ a b c : Int, orL [a, b, c] = if a ≠ 0 then a else if b ≠ 0 then b else c := fun a b c => by
  unfold orL orL orL orL
  by_cases h1 : a = 0 <;> by_cases h2 : b = 0 <;> by_cases h3 : c = 0 <;> simp [h1, h2, h3]
 rw [key]
 by_cases h1 : a = 0
 ·rw [if_neg (by simpa using h1)]
  by_cases h2 : x.fMax < y.fMax
  ·rw [if_pos h2, if_pos (by decide)]; omega
  ·rw [if_neg h2]
   by_cases h3 : y.fMax < x.fMax
   ·rw [if_pos h3, if_pos (by decide)]; omega
   ·rw [if_neg h3, if_neg (by simp)]
    split
    ·omega
    ·split <;> omega
 ·rw [if_pos h1]; omega
theorem ordered_tot {l : List aObject} (ho : ∀ o ∈ l, aR o.fPrefix.fAddr) (hl : l.length ≤ 1000000) : Tot (irr_Ordered l) (fun r => (∀ o, o ∈ r ↔ o ∈ l) ∧ r.Nodup ∧ r.length ≤ l.length) := by
 unfold irr_Ordered
 refine Tot.bindOf (show ext73_slices_Clone_R l = some l from chk_of (limB (by omega)) rfl) ?_
 have hz : ∀ x y : aObject, ∃ z : Int, (aR x.fPrefix.fAddr → aR y.fPrefix.fAddr → irr_Compare x y = some z ∧ (z < 0 ↔ oLt x y)) := fun x y => by
  by_cases h : aR x.fPrefix.fAddr ∧ aR y.fPrefix.fAddr
  ·obtain ⟨z, e⟩ := compare_obj h.1 h.2
   exact ⟨z, fun _ _ => e⟩
  ·exact ⟨0, fun a b => (h ⟨a, b⟩).elim⟩
 have kk : ∃ k : aObject → aObject → Int, ∀ x y, aR x.fPrefix.fAddr → aR y.fPrefix.fAddr → irr_Compare x y = some (k x y) ∧ (k x y < 0 ↔ oLt x y) :=
  ⟨fun x y => Classical.choose (hz x y), fun x y => Classical.choose_spec (hz x y)⟩
 obtain ⟨k, hk⟩ := kk
 obtain ⟨s, e, s1, s2⟩ := sortF_tot (xs := l) (cmp := fun x y => irr_Compare x y) k (fun x hx y hy => (hk x y (ho x hx) (ho y hy)).1)
  (fun x hx => by rw [(hk x x (ho x hx) (ho x hx)).2]; exact oLt_irr x)
  (fun x hx y hy z hz => by rw [(hk x y (ho x hx) (ho y hy)).2, (hk y z (ho y hy) (ho z hz)).2, (hk x z (ho x hx) (ho z hz)).2]; exact oLt_trans (ho x hx) (ho y hy) (ho z hz))
  (fun x hx y hy z hz => by
   rw [(hk x y (ho x hx) (ho y hy)).2, (hk y z (ho y hy) (ho z hz)).2, (hk x z (ho x hx) (ho z hz)).2]
   intro h1 h2 h3
   by_cases c : oLt y x
   ·exact h2 (oLt_trans (ho y hy) (ho x hx) (ho z hz) c h3)
   ·rw [oLt_tri (ho x hx) (ho y hy) h1 c] at h3
    exact h2 h3) (by omega)
 have hsl := s1.length_eq
 have sr : ∀ x ∈ s, aR x.fPrefix.fAddr := fun x hx => ho x (s1.mem_iff.1 hx)
 refine Tot.bindOf (show ext74_slices_SortFunc_irr_Compare l = some s from e) (Tot.chk (by simp [hsl]) (Tot.bindOf (compact_eq (by omega)) (Tot.some ⟨fun o => (dd_mem s o).trans s1.mem_iff, ?_, by have := dd_len s; omega⟩)))
 have sp : s.Pairwise fun a b => (aR a.fPrefix.fAddr ∧ aR b.fPrefix.fAddr) ∧ ¬ oLt b a := s2.imp_of_mem fun {a b} ha hb h => ⟨⟨sr a ha, sr b hb⟩, by rw [(hk b a (sr b hb) (sr a ha)).2] at h; exact h⟩
 refine dd_nodup (fun x y z h1 h2 => ⟨⟨h1.1.1, h2.1.2⟩, fun c => ?_⟩) (fun x y h1 h2 => oLt_tri h1.1.1 h1.1.2 h2.2 h1.2) s sp
 by_cases g : oLt y x
 ·exact h1.2 g
 ·by_cases g2 : oLt x y
  ·exact h2.2 (oLt_trans h2.1.2 h1.1.1 h1.1.2 c g2)
  ·rw [oLt_tri h1.1.1 h1.1.2 g2 g] at c
   exact h2.2 c
structure Good (cs : List aCert) (an : List Int) (now : Int) (s : aSigned) : Prop where
 p : FormedP s
 f : s.fFrom ≤ now
 u : now ≤ s.fUntil
 h : ∃ (i : Nat) (c : aCert), cs[i]? = some c ∧ c.fKey = s.fKey ∧ Tr cs an now 15 i ∧ HoldP c.fResources s
theorem explain_tot {cs : List aCert} {an : List Int} {now : Int} {t : List Bool} (hl : cs.length ≤ 1000000) (ht : t.length = cs.length) (htr : ∀ i : Nat, t[i]? = some true ↔ Tr cs an now 15 i) {s : aSigned} (ho : ∀ o ∈ s.fObjects, aR o.fPrefix.fAddr) :
  Tot (origin_explain cs t s now) (fun e => e = 0 ↔ Good cs an now s) := by
 unfold origin_explain
 refine Tot.bindT (formed_tot ho) fun b hb => Tot.ite (fun h => Tot.some ⟨fun e => (by cases e), fun g => ?_⟩) (fun h => ?_)
 ·rw [hb.2 g.p] at h; cases h
 ·have hp := hb.1 (by simpa using h)
  refine Tot.bindOf (show origin_current s.fFrom s.fUntil now = some _ from rfl) (Tot.ite (fun h => Tot.some ⟨fun e => (by cases e), fun g => ?_⟩) (fun h => ?_))
  ·rw [decide_eq_true g.f, decide_eq_true g.u] at h; cases h
  ·have h : decide (s.fFrom ≤ now) = true ∧ decide (now ≤ s.fUntil) = true := by simpa using h
   have h1 := of_decide_eq_true h.1
   have h2 := of_decide_eq_true h.2
   refine Tot.bindRng cs.length (fun k (e : Int) => (e, ((k : Nat) : Int))) (fun k e => e ≠ 0 ∧ ¬ ∃ (i : Nat) (c : aCert), i < k ∧ cs[i]? = some c ∧ c.fKey = s.fKey ∧ Tr cs an now 15 i ∧ HoldP c.fResources s) (fun x => match x with | .inl _ => ∃ (i : Nat) (c : aCert), cs[i]? = some c ∧ c.fKey = s.fKey ∧ Tr cs an now 15 i ∧ HoldP c.fResources s | .inr e => e ≠ 0 ∧ ¬ ∃ (i : Nat) (c : aCert), cs[i]? = some c ∧ c.fKey = s.fKey ∧ Tr cs an now 15 i ∧ HoldP c.fResources s) 11 rfl ⟨by decide, fun ⟨i, c, h, _⟩ => by omega⟩ (fun k e hk hb => ?_) (fun e hb => ?_) (fun x hx => ?_)
   ·obtain ⟨hb1, hb2⟩ := hb
    have hw : w64 ((k : Int) + 1) = ((k + 1 : Nat) : Int) := by rw [w64_id (by omega) (by omega)]; rfl
    have hkt : k < t.length := by omega
    have hcs : cs[k]? = some cs[k] := List.getElem?_eq_getElem hk
    have hnext : ¬ (cs[k].fKey = s.fKey ∧ Tr cs an now 15 k ∧ HoldP cs[k].fResources s) → ¬ ∃ (i : Nat) (c : aCert), i < k + 1 ∧ cs[i]? = some c ∧ c.fKey = s.fKey ∧ Tr cs an now 15 i ∧ HoldP c.fResources s := fun hn => by
     rintro ⟨i, c, g1, g2, g3⟩
     rcases Nat.lt_or_ge i k with q | q
     ·exact hb2 ⟨i, c, q, g2, g3⟩
     ·have : i = k := by omega
      subst this
      rw [hcs] at g2
      cases g2
      exact hn g3
    unfold origin_explain_L0
    refine Tot.iteT (by simpa using hk) (Tot.bindIdx k rfl hk (Tot.jnR (fun m : Int => m ≠ 0 ∧ ¬ (cs[k].fKey = s.fKey ∧ Tr cs an now 15 k ∧ HoldP cs[k].fResources s)) (fun j hj => Tot.ite (fun h => hj _ ⟨hb1, fun g => ?_⟩) (fun h => Tot.bindIdx k rfl hkt (Tot.ite (fun h3 => ?_) (fun h3 => ?_)))) (fun m hm => Tot.step m (by rw [hw]) ⟨hm.1, hnext hm.2⟩)))
    ·rw [g.1] at h; simp at h
    ·have hnt : ¬ Tr cs an now 15 k := fun g => by
      have := (htr k).2 g
      rw [List.getElem?_eq_getElem hkt] at this
      rw [Option.some.inj this] at h3
      cases h3
     exact Tot.ite (fun _ => hj _ ⟨by decide, fun g => hnt g.2.1⟩) (fun _ => hj _ ⟨hb1, fun g => hnt g.2.1⟩)
    ·have htk : Tr cs an now 15 k := (htr k).1 (by rw [List.getElem?_eq_getElem hkt]; simpa using h3)
     obtain ⟨c, e1, e2⟩ := tr_fine htk
     rw [hcs] at e1
     cases e1
     refine Tot.bindT (holds_tot e2.v (fun o hom => (hp.o o hom).v) (by have := hp.n; omega)) fun b hb => Tot.ite (fun h4 => hj _ ⟨by decide, fun g => ?_⟩) (fun h4 => Tot.stop ⟨k, _, hcs, by simpa using h, htk, hb.1 (by simpa using h4)⟩)
     rw [hb.2 g.2.2] at h4
     cases h4
   ·obtain ⟨hb1, hb2⟩ := hb
    unfold origin_explain_L0
    exact Tot.iteF (by simp) (Tot.last ⟨hb1, fun ⟨i, c, g⟩ => hb2 ⟨i, c, tr_lt g.2.2.1, g⟩⟩)
   ·cases x with
    | inl _ => exact Tot.some ⟨fun _ => ⟨hp, h1, h2, hx⟩, fun _ => rfl⟩
    | inr e => exact Tot.some ⟨fun g => (hx.1 g).elim, fun g => (hx.2 g.h).elim⟩
theorem payloads_tot {cs : List aCert} {an : List Int} {now : Int} (hr : ∀ c ∈ cs, Raw c.fResources) (hl : cs.length ≤ 500) (ha : an.length ≤ 1000000) {ss : List aSigned} (hs : SgOk ss) (hn : ss.length ≤ 20) :
  Tot (origin_Payloads cs ss an now) (fun x => x.2 = 0 ∧ x.1.Nodup ∧ x.1.length ≤ 60 ∧ ∀ o, o ∈ x.1 ↔ ∃ s ∈ ss, Good cs an now s ∧ o ∈ s.fObjects) := by
 unfold origin_Payloads
 refine Tot.iteF (by rw [Bool.or_eq_false_iff]; exact ⟨decide_eq_false (by omega), decide_eq_false (by omega)⟩) ?_
 refine Tot.bindT (trusted_tot (now := now) hr (by omega) (by omega)) fun t ht => ?_
 refine Tot.bindRng ss.length (fun k (l : List aObject) => (((k : Nat) : Int), l)) (fun k l => l.length ≤ 3 * k ∧ ∀ o, o ∈ l ↔ ∃ s ∈ ss.take k, Good cs an now s ∧ o ∈ s.fObjects) (fun l => l.length ≤ 3 * ss.length ∧ ∀ o, o ∈ l ↔ ∃ s ∈ ss, Good cs an now s ∧ o ∈ s.fObjects) [] rfl ⟨Nat.le_refl _, fun o => by simp⟩ (fun k l hk hb => ?_) (fun l hb => ?_) (fun l hl2 => ?_)
 ·obtain ⟨b1, b2⟩ := hb
  have hw : w64 ((k : Int) + 1) = ((k + 1 : Nat) : Int) := by rw [w64_id (by omega) (by omega)]; rfl
  obtain ⟨g1, g2⟩ := hs _ (List.getElem_mem hk)
  have step : ∀ l' : List aObject, (∀ o, o ∈ l' ↔ o ∈ l ∨ (Good cs an now ss[k] ∧ o ∈ ss[k].fObjects)) → ∀ o, o ∈ l' ↔ ∃ s ∈ ss.take (k + 1), Good cs an now s ∧ o ∈ s.fObjects := fun l' h o => by
   rw [h, b2, take_snoc hk]
   constructor
   ·rintro (⟨s, h1, h2⟩ | h2)
    ·exact ⟨s, List.mem_append_left _ h1, h2⟩
    ·exact ⟨_, List.mem_append_right _ (List.mem_singleton.2 rfl), h2⟩
   ·rintro ⟨s, h1, h2⟩
    rcases List.mem_append.1 h1 with h1 | h1
    ·exact .inl ⟨s, h1, h2⟩
    ·rw [List.mem_singleton.1 h1] at h2; exact .inr h2
  unfold origin_Payloads_L0
  refine Tot.iteT (by simpa using hk) (Tot.bindIdx k rfl hk (Tot.bindT (explain_tot (by omega) ht.1 ht.2 fun o ho => (g1 o ho).addr.1) fun e he => ?_))
  refine Tot.jnR (fun m : List aObject => m.length ≤ 3 * (k + 1) ∧ ∀ o, o ∈ m ↔ o ∈ l ∨ (Good cs an now ss[k] ∧ o ∈ ss[k].fObjects)) (fun j hj => Tot.ite (fun h => ?_) (fun h => hj _ ⟨by simp only; omega, fun o => ⟨.inl, fun h2 => h2.elim id fun h2 => ?_⟩⟩)) (fun m hm => Tot.step m (by rw [hw]) ⟨hm.1, step m hm.2⟩)
  ·have hg := he.1 (beq_iff_eq.1 h)
   have hlen : (l ++ ss[k].fObjects).length = l.length + ss[k].fObjects.length := List.length_append
   refine Tot.chk (limB (show (l ++ ss[k].fObjects).length ≤ 4000000000 by omega)) (hj _ ⟨by simp only; omega, fun o => ?_⟩)
   rw [List.mem_append]
   exact or_congr Iff.rfl ⟨fun h => ⟨hg, h⟩, fun h => h.2⟩
  ·exact ((beq_eq_false_iff_ne.1 h) (he.2 h2.1)).elim
 ·unfold origin_Payloads_L0
  refine Tot.iteF (by simp) (Tot.last ?_)
  rw [List.take_length] at hb
  exact hb
 ·obtain ⟨l1, l2⟩ := hl2
  refine Tot.bindT (ordered_tot (fun o ho => ?_) (by omega)) fun r hr2 => ?_
  ·obtain ⟨s, s1, _, s3⟩ := (l2 o).1 ho
   exact ((hs s s1).1 o s3).addr.1
  ·exact Tot.iteF (decide_eq_false (by have := hr2.2.2; omega)) (Tot.some ⟨rfl, hr2.2.1, by have := hr2.2.2; simp only; omega, fun o => (hr2.1 o).trans (l2 o)⟩)
end Go.Proofs.YtgfoabcickjphaaGreatDoor

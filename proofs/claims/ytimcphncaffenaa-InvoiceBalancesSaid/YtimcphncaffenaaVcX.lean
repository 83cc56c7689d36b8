/- Sorted lists of numbers: the element of a rank, and how many are at most it. -/
import Derived.Test.YtimcphncaffenaaVcS
namespace Go.Vc
open Go

def srt (l : List Int) : List Int := l.mergeSort fun x y => decide (x ≤ y)
theorem srt_perm (l : List Int) : (srt l).Perm l := List.mergeSort_perm _ _
theorem srt_len (l : List Int) : (srt l).length = l.length := (srt_perm l).length_eq
theorem srt_sorted (l : List Int) : (srt l).Pairwise (· ≤ ·) := by
  have := List.pairwise_mergeSort (le := fun x y : Int => decide (x ≤ y)) (fun a b c h1 h2 => by simp at *; omega) (fun a b => by simp; omega) l
  exact this.imp (fun h => by simpa using h)
theorem srt_uniq {l m : List Int} (hp : m.Perm l) (hs : m.Pairwise (· ≤ ·)) : srt l = m :=
  List.Perm.eq_of_pairwise (le := (· ≤ ·)) (fun a b _ _ h1 h2 => by omega) (srt_sorted l) hs ((srt_perm l).trans hp.symm)
theorem srt_congr {l m : List Int} (hp : l.Perm m) : srt l = srt m := srt_uniq ((srt_perm m).trans hp.symm) (srt_sorted m)

theorem sorted_get {s : List Int} (hs : s.Pairwise (· ≤ ·)) {i j : Nat} (hi : i < s.length) (hj : j < s.length) (h : i ≤ j) : s[i] ≤ s[j] := by
  rcases Nat.lt_or_eq_of_le h with h | h
  · exact List.pairwise_iff_getElem.1 hs i j hi hj h
  · subst h; exact Int.le_refl _
/-- of a sorted list at least i + 1 are at most the i-th, at most i are below it -/
theorem sorted_le {s : List Int} (hs : s.Pairwise (· ≤ ·)) {i : Nat} (hi : i < s.length) : i + 1 ≤ s.countP (fun x => decide (x ≤ s[i])) := by
  have h : (s.take (i + 1)).countP (fun x => decide (x ≤ s[i])) = i + 1 := by
    have hall : ∀ x ∈ s.take (i + 1), decide (x ≤ s[i]) = true := fun x hx => by
      obtain ⟨j, hj, rfl⟩ := List.getElem_of_mem hx
      simp only [List.length_take] at hj
      rw [List.getElem_take]
      exact decide_eq_true (sorted_get hs (by omega) hi (by omega))
    rw [List.countP_eq_length.2 hall, List.length_take]
    omega
  have : (s.take (i + 1)).countP (fun x => decide (x ≤ s[i])) ≤ s.countP (fun x => decide (x ≤ s[i])) := (List.take_sublist _ _).countP_le
  omega
theorem sorted_lt {s : List Int} (hs : s.Pairwise (· ≤ ·)) {i : Nat} (hi : i < s.length) : s.countP (fun x => decide (x < s[i])) ≤ i := by
  have e : s = s.take i ++ s.drop i := (List.take_append_drop i s).symm
  have h0 : (s.drop i).countP (fun x => decide (x < s[i])) = 0 := by
    rw [List.countP_eq_zero]
    intro x hx
    obtain ⟨j, hj, rfl⟩ := List.getElem_of_mem hx
    simp only [List.length_drop] at hj
    rw [List.getElem_drop]
    have := sorted_get hs hi (show i + j < s.length by omega) (by omega)
    simp only [decide_eq_true_eq]
    omega
  have h1 : (s.take i).countP (fun x => decide (x < s[i])) ≤ i := Nat.le_trans List.countP_le_length (by rw [List.length_take]; omega)
  have h2 : s.countP (fun x => decide (x < s[i])) = (s.take i).countP (fun x => decide (x < s[i])) + (s.drop i).countP (fun x => decide (x < s[i])) := by
    rw [← List.countP_append, List.take_append_drop]
  omega
theorem srt_le (l : List Int) {i : Nat} (hi : i < (srt l).length) : i + 1 ≤ l.countP (fun x => decide (x ≤ (srt l)[i])) := by
  rw [← (srt_perm l).countP_eq]; exact sorted_le (srt_sorted l) hi
theorem srt_lt (l : List Int) {i : Nat} (hi : i < (srt l).length) : l.countP (fun x => decide (x < (srt l)[i])) ≤ i := by
  rw [← (srt_perm l).countP_eq]; exact sorted_lt (srt_sorted l) hi
/-- the element of a rank does not shrink when the numbers grow -/
theorem countP_zip_le : ∀ {l m : List Int} (v : Int), l.length = m.length → (∀ i (h : i < l.length) (h' : i < m.length), l[i] ≤ m[i]) → m.countP (fun x => decide (x < v)) ≤ l.countP (fun x => decide (x < v))
  | [], [], _, _, _ => Nat.le_refl _
  | x :: l, y :: m, v, h, hp => by
    have ih := countP_zip_le (l := l) (m := m) v (by simpa using h) (fun i h h' => by have := hp (i + 1) (by simp; omega) (by simp; omega); simpa using this)
    have h0 := hp 0 (by simp) (by simp)
    simp only [List.getElem_cons_zero] at h0
    rw [List.countP_cons, List.countP_cons]
    by_cases hy : y < v
    · have hx : x < v := by omega
      simp only [hy, hx, decide_true, if_true]; omega
    · simp only [hy, decide_false]
      simp only [Bool.false_eq_true, if_false]
      omega
  | [], _ :: _, _, h, _ => by simp at h
  | _ :: _, [], _, h, _ => by simp at h
theorem srt_mono {l m : List Int} (hl : l.length = m.length) (hp : ∀ i (h : i < l.length) (h' : i < m.length), l[i] ≤ m[i]) {i : Nat} (hi : i < (srt l).length) (hi' : i < (srt m).length) : (srt l)[i] ≤ (srt m)[i] := by
  have h1 := srt_lt l hi
  have h2 := countP_zip_le (srt l)[i] hl hp
  have h3 := srt_le m hi'
  have h4 : m.countP (fun x => decide (x ≤ (srt m)[i])) ≤ m.countP (fun x => decide (x < (srt l)[i])) ∨ (srt l)[i] ≤ (srt m)[i] := by
    by_cases h : (srt l)[i] ≤ (srt m)[i]
    · exact .inr h
    · refine .inl (List.countP_mono_left fun x _ hx => ?_)
      simp only [decide_eq_true_eq] at hx ⊢
      omega
  rcases h4 with h4 | h4
  · omega
  · exact h4
end Go.Vc

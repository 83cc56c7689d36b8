/- Chapter 38 in plain Lean: the map in order. -/
import Derived.Test.YtpdfmjkfplgkfaaPureJ
namespace Go.Proofs.Ytpdfmjkfplgkfaa
open Go Go.Vc

theorem fold_listed : ∀ (p : List (matrix_pair × api_Cell)) (s : List api_Cell), s.length + p.length ≤ 4000000000 → foldS matrix_listed_L0 s p = some (s ++ p.map (·.2))
  | [], s, _ => by simp [foldS]
  | q :: p, s, h => by
    simp only [List.length_cons] at h
    unfold foldS
    refine bind_of (x := s ++ [q.2]) ?_ ?_
    · unfold matrix_listed_L0
      exact chk_of (limB (by simp; omega)) rfl
    · rw [fold_listed p (s ++ [q.2]) (by simp; omega)]
      simp
def num (n : Int) : Prop := 1 ≤ n ∧ n ≤ 4294967295
def cnum (c : api_Cell) : Prop := num c.fFrom ∧ num c.fTo
theorem compare_eq {a b : api_Cell} (ha : cnum a) (hb : cnum b) : matrix_compare a b = some (if a.fFrom ≠ b.fFrom then a.fFrom - b.fFrom else a.fTo - b.fTo) := by
  unfold cnum num at ha hb
  unfold matrix_compare
  by_cases e : a.fFrom = b.fFrom
  · refine ite_of_f (by simp [e]) ?_
    rw [if_neg (by simp [e]), w64_id (by omega) (by omega)]
  · refine ite_of_t (by simp [e]) ?_
    rw [if_pos e, w64_id (by omega) (by omega)]
def cmpC (a b : api_Cell) : Int := if a.fFrom ≠ b.fFrom then a.fFrom - b.fFrom else a.fTo - b.fTo
theorem cmpC_lt (a b : api_Cell) : cmpC a b < 0 ↔ cLt a b := by
  unfold cmpC cLt
  split <;> omega
theorem listed_eq {m : List (matrix_pair × api_Cell)} {l : List api_Cell} (h : Rel m l) (hnum : ∀ c ∈ l, cnum c) (hm : m.length ≤ 4000000000) : matrix_listed m = some l := by
  unfold matrix_listed
  refine mapAll_of fun p hp => ?_
  have hpl : p.length = m.length := hp.length_eq
  refine bind_of (fold_listed p [] (by simp; omega)) ?_
  rw [List.nil_append]
  have hmem : ∀ c, c ∈ p.map (·.2) ↔ c ∈ l := fun c => by
    rw [h.mem, mget_some key85 h.nodup]
    constructor
    · intro hc
      obtain ⟨q, hq, rfl⟩ := List.mem_map.1 hc
      have hq' : (q.1, q.2) ∈ m := hp.mem_iff.1 hq
      have hg := (mget_some key85 h.nodup).2 hq'
      have := h.own _ _ hg
      rw [this]; exact hq'
    · intro hc
      exact List.mem_map.2 ⟨_, hp.mem_iff.2 hc, rfl⟩
  have hn : ∀ c ∈ p.map (·.2), cnum c := fun c hc => hnum c ((hmem c).1 hc)
  obtain ⟨r, hr, hperm, hsort⟩ := sortF_tot (xs := p.map (·.2)) (cmp := fun x y => matrix_compare x y) cmpC (fun x hx y hy => compare_eq (hn x hx) (hn y hy)) (fun x _ => by rw [cmpC_lt]; exact cLt_irr x)
    (fun x _ y _ z _ h1 h2 => by rw [cmpC_lt] at *; exact cLt_trans h1 h2) (fun x _ y _ z _ h1 h2 => by rw [cmpC_lt] at *; unfold cLt at *; omega) (by simp; omega)
  refine bind_of (show ext47_slices_SortFunc_matrix_compare _ = some r from hr) ?_
  have hlen := hperm.length_eq
  refine chk_of (by simp [hlen]) ?_
  rw [List.drop_zero, List.take_of_length_le (by omega)]
  congr 1
  -- apart: the values of a map stand at different keys
  have hnd : (p.map (·.2)).Pairwise (fun a b => keyOf a ≠ keyOf b) := by
    have h1 : (mkeys p).Nodup := (show (mkeys p).Perm (mkeys m) from hp.map _).nodup_iff.2 h.nodup
    unfold mkeys at h1
    rw [List.Nodup, List.pairwise_map] at h1
    rw [List.pairwise_map]
    refine h1.imp_of_mem fun {a b} ha hb hab e => hab ?_
    have ga := h.own _ _ ((mget_some key85 h.nodup).2 (show (a.1, a.2) ∈ m from hp.mem_iff.1 ha))
    have gb := h.own _ _ ((mget_some key85 h.nodup).2 (show (b.1, b.2) ∈ m from hp.mem_iff.1 hb))
    rw [← ga, ← gb]; exact e
  have hnd2 : r.Pairwise (fun a b => keyOf a ≠ keyOf b) := hperm.symm.pairwise hnd (fun {a b} hab => Ne.symm hab)
  have hs2 : r.Pairwise cLt := by
    refine (List.Pairwise.and hsort hnd2).imp fun {a b} ⟨h1, h2⟩ => ?_
    rw [cmpC_lt] at h1
    by_cases h3 : cLt a b
    · exact h3
    · exact (h2 (cLt_key h3 h1)).elim
  exact sorted_unique (fun x y h1 h2 => cLt_irr x (cLt_trans h1 h2)) hs2 h.sorted fun x => by rw [hperm.mem_iff]; exact hmem x
end Go.Proofs.Ytpdfmjkfplgkfaa

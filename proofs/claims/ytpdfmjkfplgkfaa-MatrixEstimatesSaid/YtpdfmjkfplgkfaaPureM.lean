/- Chapter 38 in plain Lean: matrices of samples: the code and the document. -/
import Derived.Test.YtpdfmjkfplgkfaaPureL
namespace Go.Proofs.Ytpdfmjkfplgkfaa
open Go Go.Vc

theorem all_snoc {α : Type} {l : List α} {k : Nat} (p : α → Bool) (h : k < l.length) : (l.take (k + 1)).all p = ((l.take k).all p && p l[k]) := by
  rw [take_snoc h, List.all_append]; simp only [List.all_cons, List.all_nil, Bool.and_true]
theorem all_of_take {α : Type} {l : List α} {k : Nat} {p : α → Bool} (h : k < l.length) (hp : p l[k] = false) : l.all p = false := by
  rw [← Bool.not_eq_true, List.all_eq_true]
  intro ha
  have := ha _ (List.getElem_mem h)
  rw [hp] at this; cases this
def errOf (b : Bool) : Int := if b then 0 else 1

theorem cells_loop (l : List api_Sample) (rs : List api_Rule) (p10 : List (Int × Int)) (hm : ∀ q, mget keq3 p10 q = ownF rs q) (hl : l.length ≤ 1000) (hok : ∀ s ∈ l, sOk s) :
    Tot (loop (matrix_Cells_L1 l p10) ((0 : Int), (0 : Int), ([] : List (matrix_pair × api_Cell)))) (fun x => match x with
      | .inl _ => l.all (owned rs) = false
      | .inr y => l.all (owned rs) = true ∧ y.1 = errOf (l.all (good rs)) ∧ y.2.length ≤ l.length ∧ Rel y.2 (putAll [] (l.map (cellOf rs)))) := by
  refine Tot.rng l.length (fun k (b : Int × List (matrix_pair × api_Cell)) => (b.1, ((k : Nat) : Int), b.2))
    (fun k b => (l.take k).all (owned rs) = true ∧ b.1 = errOf ((l.take k).all (good rs)) ∧ b.2.length ≤ k ∧ Rel b.2 (putAll [] ((l.take k).map (cellOf rs)))) _ ((0 : Int), []) rfl ⟨rfl, rfl, Nat.le_refl _, rel_nil⟩ (fun k b hk hb => ?_) (fun b hb => ?_)
  · obtain ⟨e, m⟩ := b
    obtain ⟨h1, h2, h3, h4⟩ := hb
    simp only at h1 h2 h3 h4
    unfold matrix_Cells_L1
    refine Tot.iteT (by simpa using hk) (Tot.bindIdx k rfl hk ?_)
    simp only [hm]
    have hw : w64 ((k : Int) + 1) = ((k + 1 : Nat) : Int) := by rw [w64_id (by omega) (by omega)]; rfl
    refine Tot.ite (fun ho => ?_) (fun ho => ?_)
    · refine Tot.stop (all_of_take hk ?_)
      unfold owned
      cases h5 : (ownF rs l[k].fIn).isSome <;> cases h6 : (ownF rs l[k].fOut).isSome <;> simp_all
    · have hown : owned rs l[k] = true := by
        unfold owned
        cases h5 : (ownF rs l[k].fIn).isSome <;> cases h6 : (ownF rs l[k].fOut).isSome <;> simp_all
      have hs := hok _ (List.getElem_mem hk)
      unfold sOk at hs
      have hI1 : I64 (cellOf rs l[k]).fSamples := by
        show IntKind.i64.min ≤ (1 : Int) ∧ (1 : Int) ≤ IntKind.i64.max
        decide
      have hI2 : I64 (cellOf rs l[k]).fBytes := by
        show IntKind.i64.min ≤ l[k].fBytes ∧ l[k].fBytes ≤ IntKind.i64.max
        have e1 : IntKind.i64.min = -9223372036854775808 := by decide
        have e2 : IntKind.i64.max = 9223372036854775807 := by decide
        omega
      obtain ⟨m', hm', hrel⟩ := rel_put h4 hI1 hI2
      have hlen : m'.length ≤ m.length + 1 := by
        unfold matrix_put at hm'
        cases hm'
        exact mput_len _ _ _ _
      have fin : ∀ m60 : Bool, m60 = !(good rs l[k]) → Tot (jn (fun m63 : Int =>
          (matrix_put m (api_Cell.mk (ownD rs l[k].fIn) (ownD rs l[k].fOut) (1 : Int) l[k].fBytes)).bind fun r65 =>
          (some (.inr (m63, (w64 ((k : Int) + (1 : Int))), r65)) : Option ((Unit ⊕ (Int × List (matrix_pair × api_Cell))) ⊕ (Int × Int × List (matrix_pair × api_Cell))))) (fun j64 => (if m60 = true then j64 (1 : Int) else j64 e)))
          (Stp (fun k (b : Int × List (matrix_pair × api_Cell)) => (b.1, ((k : Nat) : Int), b.2)) (fun k b => (l.take k).all (owned rs) = true ∧ b.1 = errOf ((l.take k).all (good rs)) ∧ b.2.length ≤ k ∧ Rel b.2 (putAll [] ((l.take k).map (cellOf rs)))) (fun x => match x with
      | .inl _ => l.all (owned rs) = false
      | .inr y => l.all (owned rs) = true ∧ y.1 = errOf (l.all (good rs)) ∧ y.2.length ≤ l.length ∧ Rel y.2 (putAll [] (l.map (cellOf rs)))) k) := by
        intro m60 h60
        subst h60
        have go : ∀ e' : Int, e' = errOf ((l.take (k + 1)).all (good rs)) → Tot ((matrix_put m (api_Cell.mk (ownD rs l[k].fIn) (ownD rs l[k].fOut) (1 : Int) l[k].fBytes)).bind fun r65 =>
          (some (.inr (e', (w64 ((k : Int) + (1 : Int))), r65)) : Option ((Unit ⊕ (Int × List (matrix_pair × api_Cell))) ⊕ (Int × Int × List (matrix_pair × api_Cell))))) (Stp (fun k (b : Int × List (matrix_pair × api_Cell)) => (b.1, ((k : Nat) : Int), b.2)) (fun k b => (l.take k).all (owned rs) = true ∧ b.1 = errOf ((l.take k).all (good rs)) ∧ b.2.length ≤ k ∧ Rel b.2 (putAll [] ((l.take k).map (cellOf rs)))) (fun x => match x with
      | .inl _ => l.all (owned rs) = false
      | .inr y => l.all (owned rs) = true ∧ y.1 = errOf (l.all (good rs)) ∧ y.2.length ≤ l.length ∧ Rel y.2 (putAll [] (l.map (cellOf rs)))) k) := by
          intro e' he'
          refine Tot.bindOf hm' (Tot.step (e', m') (by rw [hw]) ⟨?_, he', by simp only; omega, ?_⟩)
          · rw [all_snoc _ hk, h1, hown]; rfl
          · rw [take_snoc hk, List.map_append, List.map_singleton, putAll_snoc]
            exact hrel
        refine Tot.jn (Tot.ite (fun hg => ?_) (fun hg => ?_))
        · refine go 1 ?_
          rw [all_snoc _ hk]
          have : good rs l[k] = false := by simpa using hg
          rw [this]; simp [errOf]
        · refine go e ?_
          rw [all_snoc _ hk, h2]
          have : good rs l[k] = true := by simpa using hg
          rw [this]; simp
      refine Tot.jn (Tot.bindOf (number_eq _) (Tot.ite (fun hg => ?_) (fun hg => ?_)))
      · refine fin true ?_
        have : num (ownD rs l[k].fIn) → False := by simpa using hg
        unfold good
        rw [decide_eq_false this]; rfl
      · refine Tot.bindOf (number_eq _) (fin _ ?_)
        have : num (ownD rs l[k].fIn) := by simpa using hg
        unfold good
        rw [decide_eq_true this]; rfl
  · obtain ⟨e, m⟩ := b
    unfold matrix_Cells_L1
    refine Tot.iteF (by simp) (Tot.last ?_)
    rw [List.take_length] at hb
    exact hb
end Go.Proofs.Ytpdfmjkfplgkfaa

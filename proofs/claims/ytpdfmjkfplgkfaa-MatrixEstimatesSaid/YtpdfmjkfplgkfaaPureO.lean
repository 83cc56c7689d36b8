/- Chapter 38 in plain Lean: the document's matrix of samples. -/
import Derived.Test.YtpdfmjkfplgkfaaPureN
namespace Go.Proofs.Ytpdfmjkfplgkfaa
open Go Go.Vc

theorem ref_loop0 (l : List api_Sample) (rs : List api_Rule) (hl : l.length ≤ 1000) (hr : rs.length ≤ 4611686018427387904) :
    Tot (loop (exchangepointref38_Cells_L0 l rs) ((0 : Int), (0 : Int))) (fun x => match x with
      | .inl _ => l.all (owned rs) = false
      | .inr y => l.all (owned rs) = true ∧ y = errOf (l.all (good rs))) := by
  refine Tot.rng l.length (fun k (b : Int) => (b, ((k : Nat) : Int)))
    (fun k b => (l.take k).all (owned rs) = true ∧ b = errOf ((l.take k).all (good rs))) _ (0 : Int) rfl ⟨rfl, rfl⟩ (fun k e hk hb => ?_) (fun b hb => ?_)
  · obtain ⟨h1, h2⟩ := hb
    unfold exchangepointref38_Cells_L0
    refine Tot.iteT (by simpa using hk) (Tot.bindIdx k rfl hk (Tot.bindOf (owner_eq rs _ hr) (Tot.bindOf (owner_eq rs _ hr) ?_)))
    have hw : w64 ((k : Int) + 1) = ((k + 1 : Nat) : Int) := by rw [w64_id (by omega) (by omega)]; rfl
    refine Tot.ite (fun ho => ?_) (fun ho => ?_)
    · refine Tot.stop (all_of_take hk ?_)
      unfold owned
      cases h5 : (ownF rs l[k].fIn).isSome <;> cases h6 : (ownF rs l[k].fOut).isSome <;> simp_all
    · have hown : owned rs l[k] = true := by
        unfold owned
        cases h5 : (ownF rs l[k].fIn).isSome <;> cases h6 : (ownF rs l[k].fOut).isSome <;> simp_all
      refine Tot.jnR (fun m51 : Bool => m51 = !(good rs l[k])) (fun j hj => ?_) (fun m51 hm => ?_)
      · refine Tot.bindOf (asn_eq _) (Tot.ite (fun hg => ?_) (fun hg => ?_))
        · refine hj true ?_
          have : num (ownD rs l[k].fIn) → False := by simpa using hg
          unfold good
          rw [decide_eq_false this]; rfl
        · refine Tot.bindOf (asn_eq _) (hj _ ?_)
          have : num (ownD rs l[k].fIn) := by simpa using hg
          unfold good
          rw [decide_eq_true this]; rfl
      · subst hm
        refine Tot.jnR (fun m54 : Int => m54 = errOf ((l.take (k + 1)).all (good rs))) (fun j hj => ?_) (fun m54 hm => ?_)
        · refine Tot.ite (fun hg => ?_) (fun hg => ?_)
          · refine hj 1 ?_
            rw [all_snoc _ hk]
            have : good rs l[k] = false := by simpa using hg
            rw [this]; simp [errOf]
          · refine hj e ?_
            rw [all_snoc _ hk, h2]
            have : good rs l[k] = true := by simpa using hg
            rw [this]; simp
        · exact Tot.step m54 (by rw [hw]) ⟨by rw [all_snoc _ hk, h1, hown]; rfl, hm⟩
  · unfold exchangepointref38_Cells_L0
    refine Tot.iteF (by simp) (Tot.last ?_)
    rw [List.take_length] at hb
    exact hb
theorem ref_loop1 (l : List api_Sample) (rs : List api_Rule) (hl : l.length ≤ 1000) (hr : rs.length ≤ 4611686018427387904) :
    Tot (loop (exchangepointref38_Cells_L1 l rs) (([] : List api_Cell), (0 : Int))) (fun x => x = putAll [] (l.map (cellOf rs))) := by
  refine Tot.rng l.length (fun k (b : List api_Cell) => (b, ((k : Nat) : Int)))
    (fun k b => b = putAll [] ((l.take k).map (cellOf rs))) _ ([] : List api_Cell) rfl rfl (fun k e hk hb => ?_) (fun b hb => ?_)
  · subst hb
    unfold exchangepointref38_Cells_L1
    have hw : w64 ((k : Int) + 1) = ((k + 1 : Nat) : Int) := by rw [w64_id (by omega) (by omega)]; rfl
    refine Tot.iteT (by simpa using hk) (Tot.bindIdx k rfl hk (Tot.bindOf (owner_eq rs _ hr) (Tot.bindOf (owner_eq rs _ hr) ?_)))
    have hlen := putAll_len ((l.take k).map (cellOf rs)) []
    simp only [List.length_nil, List.length_map, List.length_take] at hlen
    refine Tot.bindOf (put_eq _ _ (by show (putAll [] ((l.take k).map (cellOf rs))).length ≤ _; omega)) (Tot.step _ (by rw [hw]) ?_)
    rw [take_snoc hk, List.map_append, List.map_singleton, putAll_snoc]
    rfl
  · unfold exchangepointref38_Cells_L1
    refine Tot.iteF (by simp) (Tot.last ?_)
    rw [List.take_length] at hb
    exact hb
theorem ref_cells (l : List api_Sample) (rs : List api_Rule) (hl : l.length ≤ 4611686018427387904) (hr : rs.length ≤ 4611686018427387904) : exchangepointref38_Cells l rs = some (CellsF l rs) := by
  refine Tot.eq ?_
  unfold exchangepointref38_Cells CellsF
  refine Tot.bindT (ref_valid l hl) fun b hb => ?_
  by_cases hok : Ok l ∧ l.length ≤ 1000
  · have : b = true := hb.2 hok
    subst this
    rw [if_pos hok]
    refine Tot.iteF rfl (Tot.bindT (ref_loop0 l rs hok.2 hr) fun x hx => ?_)
    cases x with
    | inl u =>
      refine Tot.some ?_
      rw [if_neg (by rw [show l.all (owned rs) = false from hx]; simp)]
    | inr y =>
      obtain ⟨h1, h2⟩ := hx
      rw [if_pos h1]
      simp only
      rw [h2]
      cases hg : l.all (good rs) with
      | false => exact Tot.iteT rfl (Tot.some (by simp [errOf]))
      | true =>
        refine Tot.iteF rfl (Tot.bindT (ref_loop1 l rs hok.2 hr) fun z hz => ?_)
        subst hz
        have hlen := putAll_len (l.map (cellOf rs)) []
        simp only [List.length_nil, List.length_map] at hlen
        exact Tot.iteF (by simp; omega) (Tot.some (by simp))
  · have : b = false := by
      cases b with
      | false => rfl
      | true => exact (hok (hb.1 rfl)).elim
    subst this
    rw [if_neg hok]
    exact Tot.iteT rfl (Tot.some rfl)
end Go.Proofs.Ytpdfmjkfplgkfaa

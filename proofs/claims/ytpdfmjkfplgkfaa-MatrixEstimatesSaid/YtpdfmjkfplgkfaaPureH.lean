/- Chapter 38 in plain Lean: the owner of a port. -/
import Derived.Test.YtpdfmjkfplgkfaaPureG
namespace Go.Proofs.Ytpdfmjkfplgkfaa
open Go Go.Vc

theorem own_drop {rs : List api_Rule} {k : Nat} {q : Int} (hk : k < rs.length) : ownF (rs.drop k) q = if q = rs[k].fPort then some rs[k].fASN else ownF (rs.drop (k + 1)) q := by
  rw [List.drop_eq_getElem_cons hk]; rfl
theorem owner_eq (rs : List api_Rule) (q : Int) (hl : rs.length ≤ 4611686018427387904) : exchangepointref38_owner rs q = some ((ownF rs q).getD 0, (ownF rs q).isSome) := by
  refine Tot.eq ?_
  unfold exchangepointref38_owner
  refine Tot.bindRng rs.length (fun k (_ : Unit) => ((k : Nat) : Int)) (fun k _ => ownF (rs.drop k) q = ownF rs q) (fun x => match x with | .inl a => ownF rs q = some a | .inr _ => ownF rs q = none) () rfl rfl (fun k b hk hb => ?_) (fun b hb => ?_) (fun x hx => ?_)
  · unfold exchangepointref38_owner_L0
    refine Tot.iteT (by simpa using hk) (Tot.bindIdx k rfl hk ?_)
    rw [own_drop hk] at hb
    refine Tot.ite (fun h => ?_) (fun h => ?_)
    · have e : q = rs[k].fPort := by simpa using (beq_iff_eq.1 h).symm
      rw [if_pos e] at hb
      exact Tot.stop hb.symm
    · have e : ¬ q = rs[k].fPort := fun e => by rw [e] at h; simp at h
      rw [if_neg e] at hb
      exact Tot.step () (w64_id (by omega) (by omega)) hb
  · unfold exchangepointref38_owner_L0
    refine Tot.iteF (by simp) (Tot.last ?_)
    rw [List.drop_length] at hb
    exact hb.symm
  · cases x with
    | inl a => exact Tot.some (by rw [show ownF rs q = some a from hx]; rfl)
    | inr u => exact Tot.some (by rw [show ownF rs q = none from hx]; rfl)
end Go.Proofs.Ytpdfmjkfplgkfaa

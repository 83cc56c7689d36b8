/- Chapter 38 in plain Lean: the members of ports. -/
import Derived.Test.YtpdfmjkfplgkfaaPureF
import Derived.Test.YtpdfmjkfplgkfaaVcMP
namespace Go.Proofs.Ytpdfmjkfplgkfaa
open Go Go.Vc

theorem key3 : KeyLaw keq3 := fun a b => by unfold keq3; simp
/-- the ASN of the first rule of a port -/
def ownF : List api_Rule → Int → Option Int
  | [], _ => none
  | r :: l, q => if q = r.fPort then some r.fASN else ownF l q
theorem members_tot (rs : List api_Rule) (hl : rs.length ≤ 4611686018427387904) : Tot (loop (matrix_Cells_L0 rs) ((w64 ((rs.length : Int) - 1)), ([] : List (Int × Int)))) (fun m => ∀ q, mget keq3 m q = ownF rs q) := by
  refine Tot.loop (fun s : Int × List (Int × Int) => ∃ k : Nat, k ≤ rs.length ∧ s.1 = (k : Int) - 1 ∧ ∀ q, mget keq3 s.2 q = ownF (rs.drop k) q) (fun s => (s.1 + 1).toNat) _ (fun s hs => ?_) ⟨rs.length, Nat.le_refl _, w64_id (by omega) (by omega), fun q => by rw [List.drop_length]; rfl⟩
  obtain ⟨k, hk, h1, h2⟩ := hs
  obtain ⟨i, m⟩ := s
  simp only at h1 h2
  subst h1
  unfold matrix_Cells_L0
  refine Tot.ite (fun h => ?_) (fun h => ?_)
  · obtain ⟨j, rfl⟩ : ∃ j, k = j + 1 := ⟨k - 1, by simp at h; omega⟩
    have e : ((j + 1 : Nat) : Int) - 1 = (j : Int) := by omega
    simp only [e]
    refine Tot.bindIdx j rfl (by omega) (Tot.bindIdx j rfl (by omega) (Tot.next ⟨j, by omega, w64_id (by omega) (by omega), fun q => ?_⟩ ?_))
    · simp only
      rw [mget_mput key3, h2, List.drop_eq_getElem_cons (by omega : j < rs.length)]
      rfl
    · simp only
      rw [w64_id (by omega) (by omega)]
      omega
  · have : k = 0 := by simp at h; omega
    subst this
    exact Tot.out h2
end Go.Proofs.Ytpdfmjkfplgkfaa

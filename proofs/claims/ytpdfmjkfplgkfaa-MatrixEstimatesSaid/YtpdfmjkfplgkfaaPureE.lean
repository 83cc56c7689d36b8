/- Chapter 38 in plain Lean: the rules of six ports. -/
import Derived.Test.YtpdfmjkfplgkfaaPureD
namespace Go.Proofs.Ytpdfmjkfplgkfaa
open Go Go.Vc

noncomputable def ruleAt (turn : Int) (k : Nat) : api_Rule := api_Rule.mk ((k : Int) + 1) (101 + w64 ((k : Int) + turn) % 3) 0 [] [] [] 0 0
noncomputable def RulesL (turn : Int) : List api_Rule := (List.range 6).map (ruleAt turn)
theorem rules_eq (turn : Int) : exchangepointlaw38_rules turn = some (RulesL turn) := by
  refine Tot.eq ?_
  unfold exchangepointlaw38_rules
  refine Tot.bindRng 6 (fun k b => ((k : Int), b)) (fun k b => b = (List.range k).map (ruleAt turn)) (fun x => x = RulesL turn) ([] : List api_Rule) rfl rfl (fun k b hk hb => ?_) (fun b hb => ?_) (fun x hx => Tot.some hx)
  · subst hb
    unfold exchangepointlaw38_rules_L0
    refine Tot.iteT (by simp; omega) (Tot.bindOf (mod_eq _ 3 (by decide) (by decide)) (Tot.chk ?_ (Tot.step ((List.range (k + 1)).map (ruleAt turn)) ?_ rfl)))
    · refine decide_eq_true (show _ ≤ 4294967296 from ?_)
      simp
      omega
    · have h3 : 0 ≤ w64 ((k : Int) + turn) % 3 ∧ w64 ((k : Int) + turn) % 3 < 3 := emod_lt' _ (by decide)
      rw [w64_id (n := (k : Int) + 1) (by omega) (by omega), w64_id (n := 101 + _) (by omega) (by omega), List.range_succ, List.map_append]
      rfl
  · subst hb
    unfold exchangepointlaw38_rules_L0
    exact Tot.iteF (by simp) (Tot.last rfl)
end Go.Proofs.Ytpdfmjkfplgkfaa

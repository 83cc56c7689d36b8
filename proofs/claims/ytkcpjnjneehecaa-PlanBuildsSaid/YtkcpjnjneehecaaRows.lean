/-
  No cell of these rows narrows 'for every input' (looked for: loops, veiled, ifaces, maps, wideKeys, modest, calm, conditions, laid).
  DERIVED. THE GIVEN ROWS OF THIS SEAT. 4 by the template 'for every input the law returns true; each argument reads behind the call as it read before'; 0 by the template 'total and deterministic' (their statements: YtkcpjnjneehecaaTotals.lean).
  GIVEN WITH THE SEED: the statements are not yours to turn. If you find one false, say at which input.
  Laid BY PROGRAM, IN A SANDBOX (cutbox-rows.mjs): the forced cells as the released guide's own fill.sh prints them over the translation b8cb1a5fab75480b… (all of the seat's roots in one cut). By AI agents, Wed Nov 11 2026. No macro, syntax, notation, axiom, sorry.
-/
import Derived.Test.YtkcpjnjneehecaaChecked
import GoSem.Claim
import GoSem.ClaimJoined
import GoSem.ClaimMapViews
import Derived.JoinedTies
import Derived.KernelRfl
namespace Go.Proofs.Ytkcpjnjneehecaa
/- THE CELL 'sum', in the pinned program and in every row, IS THE sha256 OF THE DUMP (.gsa) THAT YtkcpjnjneehecaaProg.lean LOADS. Nothing in Lean hashes anything: it is a label: what it is worth is what the hold of that sum in a sandbox is worth. -/
noncomputable def Try.pinned : Pinned := { name := "ytkcpjnjneehecaa", sum := "b8cb1a5fab75480b0bbb2e4018bf026ba33e6be5cf5153d03384807a6f24eee1", checked := Try.checked }
namespace Rows
def none {H : Type} : Left H := { results := [], args := [] }

/-- 'exchangepointlaw43.PlanSheds': WHATEVER THE INPUT: true; the input reads as it did. -/
def planShedsSpec : ChangeSpec := { name := "planSheds", fn := fun _ => fun
  | [d1, d2, d3] => { results := [.lit (.bool true)], args := [d1, d2, d3] }
  | _ => none }
def planShedsRow : OpenClaim := { program := "ytkcpjnjneehecaa", sum := "b8cb1a5fab75480b0bbb2e4018bf026ba33e6be5cf5153d03384807a6f24eee1", func := "exchangepoint/exchangepointlaw43.PlanSheds", spec := "planSheds", unfollowed := true, recurses := true, apart := false }
def PlanShedsSaid : Prop := planShedsRow.holds Try.pinned (OpenSpec.ofChange planShedsSpec)

/-- ITS FALSE NEIGHBOUR: 'it returns false'. Refute it at one input. -/
def planShedsWrong : ChangeSpec := { name := "planSheds", fn := fun _ => fun
  | [d1, d2, d3] => { results := [.lit (.bool false)], args := [d1, d2, d3] }
  | _ => none }
def PlanShedsWrongFalsely : Prop := planShedsRow.holds Try.pinned (OpenSpec.ofChange planShedsWrong)

/-- 'exchangepointlaw43.PlanLarge': WHATEVER THE INPUT: true; the input reads as it did. -/
def planLargeSpec : ChangeSpec := { name := "planLarge", fn := fun _ => fun
  | [d1, d2] => { results := [.lit (.bool true)], args := [d1, d2] }
  | _ => none }
def planLargeRow : OpenClaim := { program := "ytkcpjnjneehecaa", sum := "b8cb1a5fab75480b0bbb2e4018bf026ba33e6be5cf5153d03384807a6f24eee1", func := "exchangepoint/exchangepointlaw43.PlanLarge", spec := "planLarge", unfollowed := true, recurses := true, apart := false }
def PlanLargeSaid : Prop := planLargeRow.holds Try.pinned (OpenSpec.ofChange planLargeSpec)

/-- ITS FALSE NEIGHBOUR: 'it returns false'. Refute it at one input. -/
def planLargeWrong : ChangeSpec := { name := "planLarge", fn := fun _ => fun
  | [d1, d2] => { results := [.lit (.bool false)], args := [d1, d2] }
  | _ => none }
def PlanLargeWrongFalsely : Prop := planLargeRow.holds Try.pinned (OpenSpec.ofChange planLargeWrong)

/-- 'exchangepointlaw43.PlanCarries': WHATEVER THE INPUT: true; the input reads as it did. -/
def planCarriesSpec : ChangeSpec := { name := "planCarries", fn := fun _ => fun
  | [d] => { results := [.lit (.bool true)], args := [d] }
  | _ => none }
def planCarriesRow : OpenClaim := { program := "ytkcpjnjneehecaa", sum := "b8cb1a5fab75480b0bbb2e4018bf026ba33e6be5cf5153d03384807a6f24eee1", func := "exchangepoint/exchangepointlaw43.PlanCarries", spec := "planCarries", unfollowed := true, recurses := true, apart := false }
def PlanCarriesSaid : Prop := planCarriesRow.holds Try.pinned (OpenSpec.ofChange planCarriesSpec)

/-- ITS FALSE NEIGHBOUR: 'it returns false'. Refute it at one input. -/
def planCarriesWrong : ChangeSpec := { name := "planCarries", fn := fun _ => fun
  | [d] => { results := [.lit (.bool false)], args := [d] }
  | _ => none }
def PlanCarriesWrongFalsely : Prop := planCarriesRow.holds Try.pinned (OpenSpec.ofChange planCarriesWrong)

/-- 'exchangepointlaw43.PlanBuilds': WHATEVER THE INPUT: true; the input reads as it did. -/
def planBuildsSpec : ChangeSpec := { name := "planBuilds", fn := fun _ => fun
  | [d1, d2, d3, d4] => { results := [.lit (.bool true)], args := [d1, d2, d3, d4] }
  | _ => none }
def planBuildsRow : OpenClaim := { program := "ytkcpjnjneehecaa", sum := "b8cb1a5fab75480b0bbb2e4018bf026ba33e6be5cf5153d03384807a6f24eee1", func := "exchangepoint/exchangepointlaw43.PlanBuilds", spec := "planBuilds", unfollowed := true, recurses := true, apart := false }
def PlanBuildsSaid : Prop := planBuildsRow.holds Try.pinned (OpenSpec.ofChange planBuildsSpec)

/-- ITS FALSE NEIGHBOUR: 'it returns false'. Refute it at one input. -/
def planBuildsWrong : ChangeSpec := { name := "planBuilds", fn := fun _ => fun
  | [d1, d2, d3, d4] => { results := [.lit (.bool false)], args := [d1, d2, d3, d4] }
  | _ => none }
def PlanBuildsWrongFalsely : Prop := planBuildsRow.holds Try.pinned (OpenSpec.ofChange planBuildsWrong)

/- THE SECOND FORM. 'bulk': how many values and letters a reading holds, each counted each time it is reached (what is shared counts as often as it is met; a slice's spare places count too). A statement '..UptoSaid' is the law's where the arguments, and the package variables that the reading takes, are together of bulk at most 1048576: NARROWER than '..Said'. Prove '..Said' where nothing that the law and all that it calls make is longer than what came in: it says more and counts as full. Else prove '..UptoSaid'. A law counts once. -/
mutual
def uptoBulk {H : Type} : DataW H → Nat
  | .lit (.string bytes) => bytes.length + 1
  | .lit _ => 1
  | .nil => 1
  | .ptr d => uptoBulk d + 1
  | .slice elems spare => uptoBulkAll elems + uptoBulkAll spare + 1
  | .agg parts => uptoBulkAll parts + 1
  | .iface _ d => uptoBulk d + 1
  | .map entries => uptoBulkEntries entries + 1
  | .held _ => 1
def uptoBulkAll {H : Type} : List (DataW H) → Nat
  | [] => 0
  | d :: r => uptoBulk d + uptoBulkAll r
def uptoBulkEntries {H : Type} : List (Lit × DataW H) → Nat
  | [] => 0
  | x :: r => uptoBulkEntry x + uptoBulkEntries r
def uptoBulkEntry {H : Type} : Lit × DataW H → Nat
  | (.string bytes, d) => bytes.length + uptoBulk d + 1
  | (_, d) => uptoBulk d + 1
 end
def uptoSmall : (H : Type) → List (DataW H) → Bool := fun _ ds => decide (uptoBulkAll ds ≤ 1048576)
def OpenSpec.upto (s : _root_.Go.ChangeSpec) : _root_.Go.OpenSpec := { _root_.Go.OpenSpec.ofChange s with cond := some uptoSmall }

/-- 'exchangepointlaw43.PlanSheds', WHERE WHAT IT READS IS OF BULK AT MOST 1048576: true; the input reads as it did. -/
def planShedsUptoRow : OpenClaim := { program := "ytkcpjnjneehecaa", sum := "b8cb1a5fab75480b0bbb2e4018bf026ba33e6be5cf5153d03384807a6f24eee1", func := "exchangepoint/exchangepointlaw43.PlanSheds", spec := "planSheds", unfollowed := true, recurses := true, apart := false, narrowed := true }
def PlanShedsUptoSaid : Prop := planShedsUptoRow.holds Try.pinned (OpenSpec.upto planShedsSpec)

/-- 'exchangepointlaw43.PlanLarge', WHERE WHAT IT READS IS OF BULK AT MOST 1048576: true; the input reads as it did. -/
def planLargeUptoRow : OpenClaim := { program := "ytkcpjnjneehecaa", sum := "b8cb1a5fab75480b0bbb2e4018bf026ba33e6be5cf5153d03384807a6f24eee1", func := "exchangepoint/exchangepointlaw43.PlanLarge", spec := "planLarge", unfollowed := true, recurses := true, apart := false, narrowed := true }
def PlanLargeUptoSaid : Prop := planLargeUptoRow.holds Try.pinned (OpenSpec.upto planLargeSpec)

/-- 'exchangepointlaw43.PlanCarries', WHERE WHAT IT READS IS OF BULK AT MOST 1048576: true; the input reads as it did. -/
def planCarriesUptoRow : OpenClaim := { program := "ytkcpjnjneehecaa", sum := "b8cb1a5fab75480b0bbb2e4018bf026ba33e6be5cf5153d03384807a6f24eee1", func := "exchangepoint/exchangepointlaw43.PlanCarries", spec := "planCarries", unfollowed := true, recurses := true, apart := false, narrowed := true }
def PlanCarriesUptoSaid : Prop := planCarriesUptoRow.holds Try.pinned (OpenSpec.upto planCarriesSpec)

/-- 'exchangepointlaw43.PlanBuilds', WHERE WHAT IT READS IS OF BULK AT MOST 1048576: true; the input reads as it did. -/
def planBuildsUptoRow : OpenClaim := { program := "ytkcpjnjneehecaa", sum := "b8cb1a5fab75480b0bbb2e4018bf026ba33e6be5cf5153d03384807a6f24eee1", func := "exchangepoint/exchangepointlaw43.PlanBuilds", spec := "planBuilds", unfollowed := true, recurses := true, apart := false, narrowed := true }
def PlanBuildsUptoSaid : Prop := planBuildsUptoRow.holds Try.pinned (OpenSpec.upto planBuildsSpec)

end Rows
end Go.Proofs.Ytkcpjnjneehecaa

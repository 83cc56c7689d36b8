/-
  No cell of these rows narrows 'for every input' (looked for: loops, veiled, ifaces, maps, wideKeys, modest, calm, conditions, laid).
  DERIVED. THE GIVEN ROWS OF THIS SEAT. 6 by the template 'for every input the law returns true; each argument reads behind the call as it read before'; 0 by the template 'total and deterministic' (their statements: YtjhjijcffgmpkaaTotals.lean).
  GIVEN WITH THE SEED: the statements are not yours to turn. If you find one false, say at which input.
  Laid BY PROGRAM, IN A SANDBOX (cutbox-rows.mjs): the forced cells as the released guide's own fill.sh prints them over the translation bfb8089f736c69b5… (all of the seat's roots in one cut). By AI agents, Wed Nov 11 2026. No macro, syntax, notation, axiom, sorry.
-/
import Derived.Test.YtjhjijcffgmpkaaChecked
import GoSem.Claim
import GoSem.ClaimJoined
import GoSem.ClaimMapViews
import Derived.JoinedTies
import Derived.KernelRfl
namespace Go.Proofs.Ytjhjijcffgmpkaa
/- THE CELL 'sum', in the pinned program and in every row, IS THE sha256 OF THE DUMP (.gsa) THAT YtjhjijcffgmpkaaProg.lean LOADS. Nothing in Lean hashes anything: it is a label: what it is worth is what the hold of that sum in a sandbox is worth. -/
noncomputable def Try.pinned : Pinned := { name := "ytjhjijcffgmpkaa", sum := "bfb8089f736c69b5d92d161ec957f5692152ea0a53b4cf2d4e62b9ebd7f1f1c5", checked := Try.checked }
namespace Rows
def none {H : Type} : Left H := { results := [], args := [] }

/-- 'exchangepointlaw39.IntervalCounts': WHATEVER THE INPUT: true; the input reads as it did. -/
def intervalCountsSpec : ChangeSpec := { name := "intervalCounts", fn := fun _ => fun
  | [d1, d2, d3, d4] => { results := [.lit (.bool true)], args := [d1, d2, d3, d4] }
  | _ => none }
def intervalCountsRow : OpenClaim := { program := "ytjhjijcffgmpkaa", sum := "bfb8089f736c69b5d92d161ec957f5692152ea0a53b4cf2d4e62b9ebd7f1f1c5", func := "exchangepoint/exchangepointlaw39.IntervalCounts", spec := "intervalCounts", apart := false }
def IntervalCountsSaid : Prop := intervalCountsRow.holds Try.pinned (OpenSpec.ofChange intervalCountsSpec)

/-- ITS FALSE NEIGHBOUR: 'it returns false'. Refute it at one input. -/
def intervalCountsWrong : ChangeSpec := { name := "intervalCounts", fn := fun _ => fun
  | [d1, d2, d3, d4] => { results := [.lit (.bool false)], args := [d1, d2, d3, d4] }
  | _ => none }
def IntervalCountsWrongFalsely : Prop := intervalCountsRow.holds Try.pinned (OpenSpec.ofChange intervalCountsWrong)

/-- 'exchangepointlaw39.IntervalParts': WHATEVER THE INPUT: true; the input reads as it did. -/
def intervalPartsSpec : ChangeSpec := { name := "intervalParts", fn := fun _ => fun
  | [d1, d2, d3, d4] => { results := [.lit (.bool true)], args := [d1, d2, d3, d4] }
  | _ => none }
def intervalPartsRow : OpenClaim := { program := "ytjhjijcffgmpkaa", sum := "bfb8089f736c69b5d92d161ec957f5692152ea0a53b4cf2d4e62b9ebd7f1f1c5", func := "exchangepoint/exchangepointlaw39.IntervalParts", spec := "intervalParts", apart := false }
def IntervalPartsSaid : Prop := intervalPartsRow.holds Try.pinned (OpenSpec.ofChange intervalPartsSpec)

/-- ITS FALSE NEIGHBOUR: 'it returns false'. Refute it at one input. -/
def intervalPartsWrong : ChangeSpec := { name := "intervalParts", fn := fun _ => fun
  | [d1, d2, d3, d4] => { results := [.lit (.bool false)], args := [d1, d2, d3, d4] }
  | _ => none }
def IntervalPartsWrongFalsely : Prop := intervalPartsRow.holds Try.pinned (OpenSpec.ofChange intervalPartsWrong)

/-- 'exchangepointlaw39.IntervalGrows': WHATEVER THE INPUT: true; the input reads as it did. -/
def intervalGrowsSpec : ChangeSpec := { name := "intervalGrows", fn := fun _ => fun
  | [d1, d2, d3, d4, d5] => { results := [.lit (.bool true)], args := [d1, d2, d3, d4, d5] }
  | _ => none }
def intervalGrowsRow : OpenClaim := { program := "ytjhjijcffgmpkaa", sum := "bfb8089f736c69b5d92d161ec957f5692152ea0a53b4cf2d4e62b9ebd7f1f1c5", func := "exchangepoint/exchangepointlaw39.IntervalGrows", spec := "intervalGrows", apart := false }
def IntervalGrowsSaid : Prop := intervalGrowsRow.holds Try.pinned (OpenSpec.ofChange intervalGrowsSpec)

/-- ITS FALSE NEIGHBOUR: 'it returns false'. Refute it at one input. -/
def intervalGrowsWrong : ChangeSpec := { name := "intervalGrows", fn := fun _ => fun
  | [d1, d2, d3, d4, d5] => { results := [.lit (.bool false)], args := [d1, d2, d3, d4, d5] }
  | _ => none }
def IntervalGrowsWrongFalsely : Prop := intervalGrowsRow.holds Try.pinned (OpenSpec.ofChange intervalGrowsWrong)

/-- 'exchangepointlaw39.IntervalCovers': WHATEVER THE INPUT: true; the input reads as it did. -/
def intervalCoversSpec : ChangeSpec := { name := "intervalCovers", fn := fun _ => fun
  | [d1, d2, d3, d4] => { results := [.lit (.bool true)], args := [d1, d2, d3, d4] }
  | _ => none }
def intervalCoversRow : OpenClaim := { program := "ytjhjijcffgmpkaa", sum := "bfb8089f736c69b5d92d161ec957f5692152ea0a53b4cf2d4e62b9ebd7f1f1c5", func := "exchangepoint/exchangepointlaw39.IntervalCovers", spec := "intervalCovers", apart := false }
def IntervalCoversSaid : Prop := intervalCoversRow.holds Try.pinned (OpenSpec.ofChange intervalCoversSpec)

/-- ITS FALSE NEIGHBOUR: 'it returns false'. Refute it at one input. -/
def intervalCoversWrong : ChangeSpec := { name := "intervalCovers", fn := fun _ => fun
  | [d1, d2, d3, d4] => { results := [.lit (.bool false)], args := [d1, d2, d3, d4] }
  | _ => none }
def IntervalCoversWrongFalsely : Prop := intervalCoversRow.holds Try.pinned (OpenSpec.ofChange intervalCoversWrong)

/-- 'exchangepointlaw39.IntervalBounds': WHATEVER THE INPUT: true; the input reads as it did. -/
def intervalBoundsSpec : ChangeSpec := { name := "intervalBounds", fn := fun _ => fun
  | [d1, d2, d3, d4, d5] => { results := [.lit (.bool true)], args := [d1, d2, d3, d4, d5] }
  | _ => none }
def intervalBoundsRow : OpenClaim := { program := "ytjhjijcffgmpkaa", sum := "bfb8089f736c69b5d92d161ec957f5692152ea0a53b4cf2d4e62b9ebd7f1f1c5", func := "exchangepoint/exchangepointlaw39.IntervalBounds", spec := "intervalBounds", apart := false }
def IntervalBoundsSaid : Prop := intervalBoundsRow.holds Try.pinned (OpenSpec.ofChange intervalBoundsSpec)

/-- ITS FALSE NEIGHBOUR: 'it returns false'. Refute it at one input. -/
def intervalBoundsWrong : ChangeSpec := { name := "intervalBounds", fn := fun _ => fun
  | [d1, d2, d3, d4, d5] => { results := [.lit (.bool false)], args := [d1, d2, d3, d4, d5] }
  | _ => none }
def IntervalBoundsWrongFalsely : Prop := intervalBoundsRow.holds Try.pinned (OpenSpec.ofChange intervalBoundsWrong)

/-- 'exchangepointlaw39.IntervalRaw': WHATEVER THE INPUT: true; the input reads as it did. -/
def intervalRawSpec : ChangeSpec := { name := "intervalRaw", fn := fun _ => fun
  | [d1, d2, d3, d4] => { results := [.lit (.bool true)], args := [d1, d2, d3, d4] }
  | _ => none }
def intervalRawRow : OpenClaim := { program := "ytjhjijcffgmpkaa", sum := "bfb8089f736c69b5d92d161ec957f5692152ea0a53b4cf2d4e62b9ebd7f1f1c5", func := "exchangepoint/exchangepointlaw39.IntervalRaw", spec := "intervalRaw", apart := false }
def IntervalRawSaid : Prop := intervalRawRow.holds Try.pinned (OpenSpec.ofChange intervalRawSpec)

/-- ITS FALSE NEIGHBOUR: 'it returns false'. Refute it at one input. -/
def intervalRawWrong : ChangeSpec := { name := "intervalRaw", fn := fun _ => fun
  | [d1, d2, d3, d4] => { results := [.lit (.bool false)], args := [d1, d2, d3, d4] }
  | _ => none }
def IntervalRawWrongFalsely : Prop := intervalRawRow.holds Try.pinned (OpenSpec.ofChange intervalRawWrong)

/- THE SECOND FORM. 'bulk': how many values and letters a reading holds, each counted each time it is reached (what is shared counts as often as it is met; a slice's spare places count too). A statement '..UptoSaid' is the law's where the arguments, and the package variables that the reading takes, are together of bulk at most 1048576: NARROWER than '..Said'. Prove '..Said' where nothing that the law and all that it calls make is longer than what came in: it says more and counts as full. Else prove '..UptoSaid'. A law counts once. -/
mutual
def uptoBulk {H : Type} : DataW H → Nat
  | .lit (.string bytes) => bytes.length + 1
  | .lit _ => 1
  | .nil => 1
  | .ptr d => uptoBulk d + 1
  | .slice elems spare => uptoBulkAll elems + uptoBulkAll spare + 1
  | .agg parts => uptoBulkAll parts + 1
  | .iface _ d => uptoBulk d + 1
  | .map entries => uptoBulkEntries entries + 1
  | .held _ => 1
def uptoBulkAll {H : Type} : List (DataW H) → Nat
  | [] => 0
  | d :: r => uptoBulk d + uptoBulkAll r
def uptoBulkEntries {H : Type} : List (Lit × DataW H) → Nat
  | [] => 0
  | x :: r => uptoBulkEntry x + uptoBulkEntries r
def uptoBulkEntry {H : Type} : Lit × DataW H → Nat
  | (.string bytes, d) => bytes.length + uptoBulk d + 1
  | (_, d) => uptoBulk d + 1
 end
def uptoSmall : (H : Type) → List (DataW H) → Bool := fun _ ds => decide (uptoBulkAll ds ≤ 1048576)
def OpenSpec.upto (s : _root_.Go.ChangeSpec) : _root_.Go.OpenSpec := { _root_.Go.OpenSpec.ofChange s with cond := some uptoSmall }

/-- 'exchangepointlaw39.IntervalCounts', WHERE WHAT IT READS IS OF BULK AT MOST 1048576: true; the input reads as it did. -/
def intervalCountsUptoRow : OpenClaim := { program := "ytjhjijcffgmpkaa", sum := "bfb8089f736c69b5d92d161ec957f5692152ea0a53b4cf2d4e62b9ebd7f1f1c5", func := "exchangepoint/exchangepointlaw39.IntervalCounts", spec := "intervalCounts", apart := false, narrowed := true }
def IntervalCountsUptoSaid : Prop := intervalCountsUptoRow.holds Try.pinned (OpenSpec.upto intervalCountsSpec)

/-- 'exchangepointlaw39.IntervalParts', WHERE WHAT IT READS IS OF BULK AT MOST 1048576: true; the input reads as it did. -/
def intervalPartsUptoRow : OpenClaim := { program := "ytjhjijcffgmpkaa", sum := "bfb8089f736c69b5d92d161ec957f5692152ea0a53b4cf2d4e62b9ebd7f1f1c5", func := "exchangepoint/exchangepointlaw39.IntervalParts", spec := "intervalParts", apart := false, narrowed := true }
def IntervalPartsUptoSaid : Prop := intervalPartsUptoRow.holds Try.pinned (OpenSpec.upto intervalPartsSpec)

/-- 'exchangepointlaw39.IntervalGrows', WHERE WHAT IT READS IS OF BULK AT MOST 1048576: true; the input reads as it did. -/
def intervalGrowsUptoRow : OpenClaim := { program := "ytjhjijcffgmpkaa", sum := "bfb8089f736c69b5d92d161ec957f5692152ea0a53b4cf2d4e62b9ebd7f1f1c5", func := "exchangepoint/exchangepointlaw39.IntervalGrows", spec := "intervalGrows", apart := false, narrowed := true }
def IntervalGrowsUptoSaid : Prop := intervalGrowsUptoRow.holds Try.pinned (OpenSpec.upto intervalGrowsSpec)

/-- 'exchangepointlaw39.IntervalCovers', WHERE WHAT IT READS IS OF BULK AT MOST 1048576: true; the input reads as it did. -/
def intervalCoversUptoRow : OpenClaim := { program := "ytjhjijcffgmpkaa", sum := "bfb8089f736c69b5d92d161ec957f5692152ea0a53b4cf2d4e62b9ebd7f1f1c5", func := "exchangepoint/exchangepointlaw39.IntervalCovers", spec := "intervalCovers", apart := false, narrowed := true }
def IntervalCoversUptoSaid : Prop := intervalCoversUptoRow.holds Try.pinned (OpenSpec.upto intervalCoversSpec)

/-- 'exchangepointlaw39.IntervalBounds', WHERE WHAT IT READS IS OF BULK AT MOST 1048576: true; the input reads as it did. -/
def intervalBoundsUptoRow : OpenClaim := { program := "ytjhjijcffgmpkaa", sum := "bfb8089f736c69b5d92d161ec957f5692152ea0a53b4cf2d4e62b9ebd7f1f1c5", func := "exchangepoint/exchangepointlaw39.IntervalBounds", spec := "intervalBounds", apart := false, narrowed := true }
def IntervalBoundsUptoSaid : Prop := intervalBoundsUptoRow.holds Try.pinned (OpenSpec.upto intervalBoundsSpec)

/-- 'exchangepointlaw39.IntervalRaw', WHERE WHAT IT READS IS OF BULK AT MOST 1048576: true; the input reads as it did. -/
def intervalRawUptoRow : OpenClaim := { program := "ytjhjijcffgmpkaa", sum := "bfb8089f736c69b5d92d161ec957f5692152ea0a53b4cf2d4e62b9ebd7f1f1c5", func := "exchangepoint/exchangepointlaw39.IntervalRaw", spec := "intervalRaw", apart := false, narrowed := true }
def IntervalRawUptoSaid : Prop := intervalRawUptoRow.holds Try.pinned (OpenSpec.upto intervalRawSpec)

end Rows
end Go.Proofs.Ytjhjijcffgmpkaa

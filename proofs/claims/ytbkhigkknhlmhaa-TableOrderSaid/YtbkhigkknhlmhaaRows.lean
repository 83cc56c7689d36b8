/-
  No cell of these rows narrows 'for every input' (looked for: loops, veiled, ifaces, maps, wideKeys, modest, calm, conditions, laid).
  DERIVED. THE GIVEN ROWS OF THIS SEAT. 7 by the template 'for every input the law returns true; each argument reads behind the call as it read before'; 0 by the template 'total and deterministic' (their statements: YtbkhigkknhlmhaaTotals.lean).
  GIVEN WITH THE SEED: the statements are not yours to turn. If you find one false, say at which input.
  Laid BY PROGRAM, IN A SANDBOX (cutbox-rows.mjs): the forced cells as the released guide's own fill.sh prints them over the translation 0e27963aad373bcf… (all of the seat's roots in one cut). By AI agents, Wed Nov 11 2026. No macro, syntax, notation, axiom, sorry.
-/
import Derived.Test.YtbkhigkknhlmhaaChecked
import GoSem.Claim
import GoSem.ClaimJoined
import GoSem.ClaimMapViews
import Derived.JoinedTies
import Derived.KernelRfl
namespace Go.Proofs.Ytbkhigkknhlmhaa
/- THE CELL 'sum', in the pinned program and in every row, IS THE sha256 OF THE DUMP (.gsa) THAT YtbkhigkknhlmhaaProg.lean LOADS. Nothing in Lean hashes anything: it is a label: what it is worth is what the hold of that sum in a sandbox is worth. -/
noncomputable def Try.pinned : Pinned := { name := "ytbkhigkknhlmhaa", sum := "0e27963aad373bcf3632879aa7bb8902a017fbad8c6a40b504a14b237c991f5a", checked := Try.checked }
namespace Rows
def none {H : Type} : Left H := { results := [], args := [] }

/-- 'exchangepointlaw03.TableAggregates': WHATEVER THE INPUT: true; the input reads as it did. -/
def tableAggregatesSpec : ChangeSpec := { name := "tableAggregates", fn := fun _ => fun
  | [d] => { results := [.lit (.bool true)], args := [d] }
  | _ => none }
def tableAggregatesRow : OpenClaim := { program := "ytbkhigkknhlmhaa", sum := "0e27963aad373bcf3632879aa7bb8902a017fbad8c6a40b504a14b237c991f5a", func := "exchangepoint/exchangepointlaw03.TableAggregates", spec := "tableAggregates", inPlace := ["maps.clone"], unfollowed := true, recurses := true, plainKeys := false, apart := false }
def TableAggregatesSaid : Prop := tableAggregatesRow.holds Try.pinned (OpenSpec.ofChange tableAggregatesSpec)

/-- ITS FALSE NEIGHBOUR: 'it returns false'. Refute it at one input. -/
def tableAggregatesWrong : ChangeSpec := { name := "tableAggregates", fn := fun _ => fun
  | [d] => { results := [.lit (.bool false)], args := [d] }
  | _ => none }
def TableAggregatesWrongFalsely : Prop := tableAggregatesRow.holds Try.pinned (OpenSpec.ofChange tableAggregatesWrong)

/-- 'exchangepointlaw03.TableLongest': WHATEVER THE INPUT: true; the input reads as it did. -/
def tableLongestSpec : ChangeSpec := { name := "tableLongest", fn := fun _ => fun
  | [d] => { results := [.lit (.bool true)], args := [d] }
  | _ => none }
def tableLongestRow : OpenClaim := { program := "ytbkhigkknhlmhaa", sum := "0e27963aad373bcf3632879aa7bb8902a017fbad8c6a40b504a14b237c991f5a", func := "exchangepoint/exchangepointlaw03.TableLongest", spec := "tableLongest", inPlace := ["maps.clone"], unfollowed := true, recurses := true, plainKeys := false, apart := false }
def TableLongestSaid : Prop := tableLongestRow.holds Try.pinned (OpenSpec.ofChange tableLongestSpec)

/-- ITS FALSE NEIGHBOUR: 'it returns false'. Refute it at one input. -/
def tableLongestWrong : ChangeSpec := { name := "tableLongest", fn := fun _ => fun
  | [d] => { results := [.lit (.bool false)], args := [d] }
  | _ => none }
def TableLongestWrongFalsely : Prop := tableLongestRow.holds Try.pinned (OpenSpec.ofChange tableLongestWrong)

/-- 'exchangepointlaw03.TableSame': WHATEVER THE INPUT: true; the input reads as it did. -/
def tableSameSpec : ChangeSpec := { name := "tableSame", fn := fun _ => fun
  | [d] => { results := [.lit (.bool true)], args := [d] }
  | _ => none }
def tableSameRow : OpenClaim := { program := "ytbkhigkknhlmhaa", sum := "0e27963aad373bcf3632879aa7bb8902a017fbad8c6a40b504a14b237c991f5a", func := "exchangepoint/exchangepointlaw03.TableSame", spec := "tableSame", inPlace := ["maps.clone"], unfollowed := true, recurses := true, plainKeys := false, apart := false }
def TableSameSaid : Prop := tableSameRow.holds Try.pinned (OpenSpec.ofChange tableSameSpec)

/-- ITS FALSE NEIGHBOUR: 'it returns false'. Refute it at one input. -/
def tableSameWrong : ChangeSpec := { name := "tableSame", fn := fun _ => fun
  | [d] => { results := [.lit (.bool false)], args := [d] }
  | _ => none }
def TableSameWrongFalsely : Prop := tableSameRow.holds Try.pinned (OpenSpec.ofChange tableSameWrong)

/-- 'exchangepointlaw03.TableFinds': WHATEVER THE INPUT: true; the input reads as it did. -/
def tableFindsSpec : ChangeSpec := { name := "tableFinds", fn := fun _ => fun
  | [d1, d2] => { results := [.lit (.bool true)], args := [d1, d2] }
  | _ => none }
def tableFindsRow : OpenClaim := { program := "ytbkhigkknhlmhaa", sum := "0e27963aad373bcf3632879aa7bb8902a017fbad8c6a40b504a14b237c991f5a", func := "exchangepoint/exchangepointlaw03.TableFinds", spec := "tableFinds", inPlace := ["maps.clone"], unfollowed := true, recurses := true, plainKeys := false, apart := false }
def TableFindsSaid : Prop := tableFindsRow.holds Try.pinned (OpenSpec.ofChange tableFindsSpec)

/-- ITS FALSE NEIGHBOUR: 'it returns false'. Refute it at one input. -/
def tableFindsWrong : ChangeSpec := { name := "tableFinds", fn := fun _ => fun
  | [d1, d2] => { results := [.lit (.bool false)], args := [d1, d2] }
  | _ => none }
def TableFindsWrongFalsely : Prop := tableFindsRow.holds Try.pinned (OpenSpec.ofChange tableFindsWrong)

/-- 'exchangepointlaw03.TableHides': WHATEVER THE INPUT: true; the input reads as it did. -/
def tableHidesSpec : ChangeSpec := { name := "tableHides", fn := fun _ => fun
  | [d1, d2] => { results := [.lit (.bool true)], args := [d1, d2] }
  | _ => none }
def tableHidesRow : OpenClaim := { program := "ytbkhigkknhlmhaa", sum := "0e27963aad373bcf3632879aa7bb8902a017fbad8c6a40b504a14b237c991f5a", func := "exchangepoint/exchangepointlaw03.TableHides", spec := "tableHides", inPlace := ["slices.overlaps[exchangepoint/api.Entry]", "maps.clone"], unfollowed := true, recurses := true, plainKeys := false, apart := false }
def TableHidesSaid : Prop := tableHidesRow.holds Try.pinned (OpenSpec.ofChange tableHidesSpec)

/-- ITS FALSE NEIGHBOUR: 'it returns false'. Refute it at one input. -/
def tableHidesWrong : ChangeSpec := { name := "tableHides", fn := fun _ => fun
  | [d1, d2] => { results := [.lit (.bool false)], args := [d1, d2] }
  | _ => none }
def TableHidesWrongFalsely : Prop := tableHidesRow.holds Try.pinned (OpenSpec.ofChange tableHidesWrong)

/-- 'exchangepointlaw03.TableChanges': WHATEVER THE INPUT: true; the input reads as it did. -/
def tableChangesSpec : ChangeSpec := { name := "tableChanges", fn := fun _ => fun
  | [d1, d2, d3, d4, d5] => { results := [.lit (.bool true)], args := [d1, d2, d3, d4, d5] }
  | _ => none }
def tableChangesRow : OpenClaim := { program := "ytbkhigkknhlmhaa", sum := "0e27963aad373bcf3632879aa7bb8902a017fbad8c6a40b504a14b237c991f5a", func := "exchangepoint/exchangepointlaw03.TableChanges", spec := "tableChanges", inPlace := ["maps.clone", "slices.overlaps[exchangepoint/api.Entry]"], unfollowed := true, recurses := true, plainKeys := false, apart := false }
def TableChangesSaid : Prop := tableChangesRow.holds Try.pinned (OpenSpec.ofChange tableChangesSpec)

/-- ITS FALSE NEIGHBOUR: 'it returns false'. Refute it at one input. -/
def tableChangesWrong : ChangeSpec := { name := "tableChanges", fn := fun _ => fun
  | [d1, d2, d3, d4, d5] => { results := [.lit (.bool false)], args := [d1, d2, d3, d4, d5] }
  | _ => none }
def TableChangesWrongFalsely : Prop := tableChangesRow.holds Try.pinned (OpenSpec.ofChange tableChangesWrong)

/-- 'exchangepointlaw03.TableOrder': WHATEVER THE INPUT: true; the input reads as it did. -/
def tableOrderSpec : ChangeSpec := { name := "tableOrder", fn := fun _ => fun
  | [d1, d2] => { results := [.lit (.bool true)], args := [d1, d2] }
  | _ => none }
def tableOrderRow : OpenClaim := { program := "ytbkhigkknhlmhaa", sum := "0e27963aad373bcf3632879aa7bb8902a017fbad8c6a40b504a14b237c991f5a", func := "exchangepoint/exchangepointlaw03.TableOrder", spec := "tableOrder", inPlace := ["slices.overlaps[exchangepoint/api.Entry]", "maps.clone"], unfollowed := true, recurses := true, plainKeys := false, apart := false }
def TableOrderSaid : Prop := tableOrderRow.holds Try.pinned (OpenSpec.ofChange tableOrderSpec)

/-- ITS FALSE NEIGHBOUR: 'it returns false'. Refute it at one input. -/
def tableOrderWrong : ChangeSpec := { name := "tableOrder", fn := fun _ => fun
  | [d1, d2] => { results := [.lit (.bool false)], args := [d1, d2] }
  | _ => none }
def TableOrderWrongFalsely : Prop := tableOrderRow.holds Try.pinned (OpenSpec.ofChange tableOrderWrong)

/- THE SECOND FORM. 'bulk': how many values and letters a reading holds, each counted each time it is reached (what is shared counts as often as it is met; a slice's spare places count too). A statement '..UptoSaid' is the law's where the arguments, and the package variables that the reading takes, are together of bulk at most 1048576: NARROWER than '..Said'. Prove '..Said' where nothing that the law and all that it calls make is longer than what came in: it says more and counts as full. Else prove '..UptoSaid'. A law counts once. -/
mutual
def uptoBulk {H : Type} : DataW H → Nat
  | .lit (.string bytes) => bytes.length + 1
  | .lit _ => 1
  | .nil => 1
  | .ptr d => uptoBulk d + 1
  | .slice elems spare => uptoBulkAll elems + uptoBulkAll spare + 1
  | .agg parts => uptoBulkAll parts + 1
  | .iface _ d => uptoBulk d + 1
  | .map entries => uptoBulkEntries entries + 1
  | .held _ => 1
def uptoBulkAll {H : Type} : List (DataW H) → Nat
  | [] => 0
  | d :: r => uptoBulk d + uptoBulkAll r
def uptoBulkEntries {H : Type} : List (Lit × DataW H) → Nat
  | [] => 0
  | x :: r => uptoBulkEntry x + uptoBulkEntries r
def uptoBulkEntry {H : Type} : Lit × DataW H → Nat
  | (.string bytes, d) => bytes.length + uptoBulk d + 1
  | (_, d) => uptoBulk d + 1
 end
def uptoSmall : (H : Type) → List (DataW H) → Bool := fun _ ds => decide (uptoBulkAll ds ≤ 1048576)
def OpenSpec.upto (s : _root_.Go.ChangeSpec) : _root_.Go.OpenSpec := { _root_.Go.OpenSpec.ofChange s with cond := some uptoSmall }

/-- 'exchangepointlaw03.TableAggregates', WHERE WHAT IT READS IS OF BULK AT MOST 1048576: true; the input reads as it did. -/
def tableAggregatesUptoRow : OpenClaim := { program := "ytbkhigkknhlmhaa", sum := "0e27963aad373bcf3632879aa7bb8902a017fbad8c6a40b504a14b237c991f5a", func := "exchangepoint/exchangepointlaw03.TableAggregates", spec := "tableAggregates", inPlace := ["maps.clone"], unfollowed := true, recurses := true, plainKeys := false, apart := false, narrowed := true }
def TableAggregatesUptoSaid : Prop := tableAggregatesUptoRow.holds Try.pinned (OpenSpec.upto tableAggregatesSpec)

/-- 'exchangepointlaw03.TableLongest', WHERE WHAT IT READS IS OF BULK AT MOST 1048576: true; the input reads as it did. -/
def tableLongestUptoRow : OpenClaim := { program := "ytbkhigkknhlmhaa", sum := "0e27963aad373bcf3632879aa7bb8902a017fbad8c6a40b504a14b237c991f5a", func := "exchangepoint/exchangepointlaw03.TableLongest", spec := "tableLongest", inPlace := ["maps.clone"], unfollowed := true, recurses := true, plainKeys := false, apart := false, narrowed := true }
def TableLongestUptoSaid : Prop := tableLongestUptoRow.holds Try.pinned (OpenSpec.upto tableLongestSpec)

/-- 'exchangepointlaw03.TableSame', WHERE WHAT IT READS IS OF BULK AT MOST 1048576: true; the input reads as it did. -/
def tableSameUptoRow : OpenClaim := { program := "ytbkhigkknhlmhaa", sum := "0e27963aad373bcf3632879aa7bb8902a017fbad8c6a40b504a14b237c991f5a", func := "exchangepoint/exchangepointlaw03.TableSame", spec := "tableSame", inPlace := ["maps.clone"], unfollowed := true, recurses := true, plainKeys := false, apart := false, narrowed := true }
def TableSameUptoSaid : Prop := tableSameUptoRow.holds Try.pinned (OpenSpec.upto tableSameSpec)

/-- 'exchangepointlaw03.TableFinds', WHERE WHAT IT READS IS OF BULK AT MOST 1048576: true; the input reads as it did. -/
def tableFindsUptoRow : OpenClaim := { program := "ytbkhigkknhlmhaa", sum := "0e27963aad373bcf3632879aa7bb8902a017fbad8c6a40b504a14b237c991f5a", func := "exchangepoint/exchangepointlaw03.TableFinds", spec := "tableFinds", inPlace := ["maps.clone"], unfollowed := true, recurses := true, plainKeys := false, apart := false, narrowed := true }
def TableFindsUptoSaid : Prop := tableFindsUptoRow.holds Try.pinned (OpenSpec.upto tableFindsSpec)

/-- 'exchangepointlaw03.TableHides', WHERE WHAT IT READS IS OF BULK AT MOST 1048576: true; the input reads as it did. -/
def tableHidesUptoRow : OpenClaim := { program := "ytbkhigkknhlmhaa", sum := "0e27963aad373bcf3632879aa7bb8902a017fbad8c6a40b504a14b237c991f5a", func := "exchangepoint/exchangepointlaw03.TableHides", spec := "tableHides", inPlace := ["slices.overlaps[exchangepoint/api.Entry]", "maps.clone"], unfollowed := true, recurses := true, plainKeys := false, apart := false, narrowed := true }
def TableHidesUptoSaid : Prop := tableHidesUptoRow.holds Try.pinned (OpenSpec.upto tableHidesSpec)

/-- 'exchangepointlaw03.TableChanges', WHERE WHAT IT READS IS OF BULK AT MOST 1048576: true; the input reads as it did. -/
def tableChangesUptoRow : OpenClaim := { program := "ytbkhigkknhlmhaa", sum := "0e27963aad373bcf3632879aa7bb8902a017fbad8c6a40b504a14b237c991f5a", func := "exchangepoint/exchangepointlaw03.TableChanges", spec := "tableChanges", inPlace := ["maps.clone", "slices.overlaps[exchangepoint/api.Entry]"], unfollowed := true, recurses := true, plainKeys := false, apart := false, narrowed := true }
def TableChangesUptoSaid : Prop := tableChangesUptoRow.holds Try.pinned (OpenSpec.upto tableChangesSpec)

/-- 'exchangepointlaw03.TableOrder', WHERE WHAT IT READS IS OF BULK AT MOST 1048576: true; the input reads as it did. -/
def tableOrderUptoRow : OpenClaim := { program := "ytbkhigkknhlmhaa", sum := "0e27963aad373bcf3632879aa7bb8902a017fbad8c6a40b504a14b237c991f5a", func := "exchangepoint/exchangepointlaw03.TableOrder", spec := "tableOrder", inPlace := ["slices.overlaps[exchangepoint/api.Entry]", "maps.clone"], unfollowed := true, recurses := true, plainKeys := false, apart := false, narrowed := true }
def TableOrderUptoSaid : Prop := tableOrderUptoRow.holds Try.pinned (OpenSpec.upto tableOrderSpec)

end Rows
end Go.Proofs.Ytbkhigkknhlmhaa

/-
  No cell of these rows narrows 'for every input' (looked for: loops, veiled, ifaces, maps, wideKeys, modest, calm, conditions, laid).
  DERIVED. THE GIVEN ROWS OF THIS SEAT. 4 by the template 'for every input the law returns true; each argument reads behind the call as it read before'; 0 by the template 'total and deterministic' (their statements: YtdjdoeengjdmmaaTotals.lean).
  GIVEN WITH THE SEED: the statements are not yours to turn. If you find one false, say at which input.
  Laid BY PROGRAM, IN A SANDBOX (cutbox-rows.mjs): the forced cells as the released guide's own fill.sh prints them over the translation 7e441517180a430f… (all of the seat's roots in one cut). By AI agents, Wed Nov 11 2026. No macro, syntax, notation, axiom, sorry.
-/
import Derived.Test.YtdjdoeengjdmmaaChecked
import GoSem.Claim
import GoSem.ClaimJoined
import GoSem.ClaimMapViews
import Derived.JoinedTies
import Derived.KernelRfl
namespace Go.Proofs.Ytdjdoeengjdmmaa
/- THE CELL 'sum', in the pinned program and in every row, IS THE sha256 OF THE DUMP (.gsa) THAT YtdjdoeengjdmmaaProg.lean LOADS. Nothing in Lean hashes anything: it is a label: what it is worth is what the hold of that sum in a sandbox is worth. -/
noncomputable def Try.pinned : Pinned := { name := "ytdjdoeengjdmmaa", sum := "7e441517180a430f151d2fd1e451d4860928aaadf5d281e08b477c649b9d7df6", checked := Try.checked }
namespace Rows
def none {H : Type} : Left H := { results := [], args := [] }

/-- 'exchangepointlaw37.SamplePicks': WHATEVER THE INPUT: true; the input reads as it did. -/
def samplePicksSpec : ChangeSpec := { name := "samplePicks", fn := fun _ => fun
  | [d1, d2, d3] => { results := [.lit (.bool true)], args := [d1, d2, d3] }
  | _ => none }
def samplePicksRow : OpenClaim := { program := "ytdjdoeengjdmmaa", sum := "7e441517180a430f151d2fd1e451d4860928aaadf5d281e08b477c649b9d7df6", func := "exchangepoint/exchangepointlaw37.SamplePicks", spec := "samplePicks", unfollowed := true, recurses := true, apart := false }
def SamplePicksSaid : Prop := samplePicksRow.holds Try.pinned (OpenSpec.ofChange samplePicksSpec)

/-- ITS FALSE NEIGHBOUR: 'it returns false'. Refute it at one input. -/
def samplePicksWrong : ChangeSpec := { name := "samplePicks", fn := fun _ => fun
  | [d1, d2, d3] => { results := [.lit (.bool false)], args := [d1, d2, d3] }
  | _ => none }
def SamplePicksWrongFalsely : Prop := samplePicksRow.holds Try.pinned (OpenSpec.ofChange samplePicksWrong)

/-- 'exchangepointlaw37.SampleRatio': WHATEVER THE INPUT: true; the input reads as it did. -/
def sampleRatioSpec : ChangeSpec := { name := "sampleRatio", fn := fun _ => fun
  | [d1, d2, d3] => { results := [.lit (.bool true)], args := [d1, d2, d3] }
  | _ => none }
def sampleRatioRow : OpenClaim := { program := "ytdjdoeengjdmmaa", sum := "7e441517180a430f151d2fd1e451d4860928aaadf5d281e08b477c649b9d7df6", func := "exchangepoint/exchangepointlaw37.SampleRatio", spec := "sampleRatio", unfollowed := true, recurses := true, apart := false }
def SampleRatioSaid : Prop := sampleRatioRow.holds Try.pinned (OpenSpec.ofChange sampleRatioSpec)

/-- ITS FALSE NEIGHBOUR: 'it returns false'. Refute it at one input. -/
def sampleRatioWrong : ChangeSpec := { name := "sampleRatio", fn := fun _ => fun
  | [d1, d2, d3] => { results := [.lit (.bool false)], args := [d1, d2, d3] }
  | _ => none }
def SampleRatioWrongFalsely : Prop := sampleRatioRow.holds Try.pinned (OpenSpec.ofChange sampleRatioWrong)

/-- 'exchangepointlaw37.SampleMerges': WHATEVER THE INPUT: true; the input reads as it did. -/
def sampleMergesSpec : ChangeSpec := { name := "sampleMerges", fn := fun _ => fun
  | [d1, d2] => { results := [.lit (.bool true)], args := [d1, d2] }
  | _ => none }
def sampleMergesRow : OpenClaim := { program := "ytdjdoeengjdmmaa", sum := "7e441517180a430f151d2fd1e451d4860928aaadf5d281e08b477c649b9d7df6", func := "exchangepoint/exchangepointlaw37.SampleMerges", spec := "sampleMerges", unfollowed := true, recurses := true, apart := false }
def SampleMergesSaid : Prop := sampleMergesRow.holds Try.pinned (OpenSpec.ofChange sampleMergesSpec)

/-- ITS FALSE NEIGHBOUR: 'it returns false'. Refute it at one input. -/
def sampleMergesWrong : ChangeSpec := { name := "sampleMerges", fn := fun _ => fun
  | [d1, d2] => { results := [.lit (.bool false)], args := [d1, d2] }
  | _ => none }
def SampleMergesWrongFalsely : Prop := sampleMergesRow.holds Try.pinned (OpenSpec.ofChange sampleMergesWrong)

/-- 'exchangepointlaw37.SampleLists': WHATEVER THE INPUT: true; the input reads as it did. -/
def sampleListsSpec : ChangeSpec := { name := "sampleLists", fn := fun _ => fun
  | [d1, d2, d3, d4, d5, d6] => { results := [.lit (.bool true)], args := [d1, d2, d3, d4, d5, d6] }
  | _ => none }
def sampleListsRow : OpenClaim := { program := "ytdjdoeengjdmmaa", sum := "7e441517180a430f151d2fd1e451d4860928aaadf5d281e08b477c649b9d7df6", func := "exchangepoint/exchangepointlaw37.SampleLists", spec := "sampleLists", unfollowed := true, recurses := true, apart := false }
def SampleListsSaid : Prop := sampleListsRow.holds Try.pinned (OpenSpec.ofChange sampleListsSpec)

/-- ITS FALSE NEIGHBOUR: 'it returns false'. Refute it at one input. -/
def sampleListsWrong : ChangeSpec := { name := "sampleLists", fn := fun _ => fun
  | [d1, d2, d3, d4, d5, d6] => { results := [.lit (.bool false)], args := [d1, d2, d3, d4, d5, d6] }
  | _ => none }
def SampleListsWrongFalsely : Prop := sampleListsRow.holds Try.pinned (OpenSpec.ofChange sampleListsWrong)

/- THE SECOND FORM. 'bulk': how many values and letters a reading holds, each counted each time it is reached (what is shared counts as often as it is met; a slice's spare places count too). A statement '..UptoSaid' is the law's where the arguments, and the package variables that the reading takes, are together of bulk at most 1048576: NARROWER than '..Said'. Prove '..Said' where nothing that the law and all that it calls make is longer than what came in: it says more and counts as full. Else prove '..UptoSaid'. A law counts once. -/
mutual
def uptoBulk {H : Type} : DataW H → Nat
  | .lit (.string bytes) => bytes.length + 1
  | .lit _ => 1
  | .nil => 1
  | .ptr d => uptoBulk d + 1
  | .slice elems spare => uptoBulkAll elems + uptoBulkAll spare + 1
  | .agg parts => uptoBulkAll parts + 1
  | .iface _ d => uptoBulk d + 1
  | .map entries => uptoBulkEntries entries + 1
  | .held _ => 1
def uptoBulkAll {H : Type} : List (DataW H) → Nat
  | [] => 0
  | d :: r => uptoBulk d + uptoBulkAll r
def uptoBulkEntries {H : Type} : List (Lit × DataW H) → Nat
  | [] => 0
  | x :: r => uptoBulkEntry x + uptoBulkEntries r
def uptoBulkEntry {H : Type} : Lit × DataW H → Nat
  | (.string bytes, d) => bytes.length + uptoBulk d + 1
  | (_, d) => uptoBulk d + 1
 end
def uptoSmall : (H : Type) → List (DataW H) → Bool := fun _ ds => decide (uptoBulkAll ds ≤ 1048576)
def OpenSpec.upto (s : _root_.Go.ChangeSpec) : _root_.Go.OpenSpec := { _root_.Go.OpenSpec.ofChange s with cond := some uptoSmall }

/-- 'exchangepointlaw37.SamplePicks', WHERE WHAT IT READS IS OF BULK AT MOST 1048576: true; the input reads as it did. -/
def samplePicksUptoRow : OpenClaim := { program := "ytdjdoeengjdmmaa", sum := "7e441517180a430f151d2fd1e451d4860928aaadf5d281e08b477c649b9d7df6", func := "exchangepoint/exchangepointlaw37.SamplePicks", spec := "samplePicks", unfollowed := true, recurses := true, apart := false, narrowed := true }
def SamplePicksUptoSaid : Prop := samplePicksUptoRow.holds Try.pinned (OpenSpec.upto samplePicksSpec)

/-- 'exchangepointlaw37.SampleRatio', WHERE WHAT IT READS IS OF BULK AT MOST 1048576: true; the input reads as it did. -/
def sampleRatioUptoRow : OpenClaim := { program := "ytdjdoeengjdmmaa", sum := "7e441517180a430f151d2fd1e451d4860928aaadf5d281e08b477c649b9d7df6", func := "exchangepoint/exchangepointlaw37.SampleRatio", spec := "sampleRatio", unfollowed := true, recurses := true, apart := false, narrowed := true }
def SampleRatioUptoSaid : Prop := sampleRatioUptoRow.holds Try.pinned (OpenSpec.upto sampleRatioSpec)

/-- 'exchangepointlaw37.SampleMerges', WHERE WHAT IT READS IS OF BULK AT MOST 1048576: true; the input reads as it did. -/
def sampleMergesUptoRow : OpenClaim := { program := "ytdjdoeengjdmmaa", sum := "7e441517180a430f151d2fd1e451d4860928aaadf5d281e08b477c649b9d7df6", func := "exchangepoint/exchangepointlaw37.SampleMerges", spec := "sampleMerges", unfollowed := true, recurses := true, apart := false, narrowed := true }
def SampleMergesUptoSaid : Prop := sampleMergesUptoRow.holds Try.pinned (OpenSpec.upto sampleMergesSpec)

/-- 'exchangepointlaw37.SampleLists', WHERE WHAT IT READS IS OF BULK AT MOST 1048576: true; the input reads as it did. -/
def sampleListsUptoRow : OpenClaim := { program := "ytdjdoeengjdmmaa", sum := "7e441517180a430f151d2fd1e451d4860928aaadf5d281e08b477c649b9d7df6", func := "exchangepoint/exchangepointlaw37.SampleLists", spec := "sampleLists", unfollowed := true, recurses := true, apart := false, narrowed := true }
def SampleListsUptoSaid : Prop := sampleListsUptoRow.holds Try.pinned (OpenSpec.upto sampleListsSpec)

end Rows
end Go.Proofs.Ytdjdoeengjdmmaa

/-
  No cell of these rows narrows 'for every input' (looked for: loops, veiled, ifaces, maps, wideKeys, modest, calm, conditions, laid).
  DERIVED. THE GIVEN ROWS OF THIS SEAT. 4 by the template 'for every input the law returns true; each argument reads behind the call as it read before'; 0 by the template 'total and deterministic' (their statements: YtpdfmjkfplgkfaaTotals.lean).
  GIVEN WITH THE SEED: the statements are not yours to turn. If you find one false, say at which input.
  Laid BY PROGRAM, IN A SANDBOX (cutbox-rows.mjs): the forced cells as the released guide's own fill.sh prints them over the translation 4b34772e80e3c292… (all of the seat's roots in one cut). By AI agents, Wed Nov 11 2026. No macro, syntax, notation, axiom, sorry.
-/
import Derived.Test.YtpdfmjkfplgkfaaChecked
import GoSem.Claim
import GoSem.ClaimJoined
import GoSem.ClaimMapViews
import Derived.JoinedTies
import Derived.KernelRfl
namespace Go.Proofs.Ytpdfmjkfplgkfaa
/- THE CELL 'sum', in the pinned program and in every row, IS THE sha256 OF THE DUMP (.gsa) THAT YtpdfmjkfplgkfaaProg.lean LOADS. Nothing in Lean hashes anything: it is a label: what it is worth is what the hold of that sum in a sandbox is worth. -/
noncomputable def Try.pinned : Pinned := { name := "ytpdfmjkfplgkfaa", sum := "4b34772e80e3c292f509d820a5cfe7649a6e875ed778d5f5dd89922efb98d35c", checked := Try.checked }
namespace Rows
def none {H : Type} : Left H := { results := [], args := [] }

/-- 'exchangepointlaw38.MatrixEstimates': WHATEVER THE INPUT: true; the input reads as it did. -/
def matrixEstimatesSpec : ChangeSpec := { name := "matrixEstimates", fn := fun _ => fun
  | [d1, d2, d3] => { results := [.lit (.bool true)], args := [d1, d2, d3] }
  | _ => none }
def matrixEstimatesRow : OpenClaim := { program := "ytpdfmjkfplgkfaa", sum := "4b34772e80e3c292f509d820a5cfe7649a6e875ed778d5f5dd89922efb98d35c", func := "exchangepoint/exchangepointlaw38.MatrixEstimates", spec := "matrixEstimates", unfollowed := true, recurses := true, named := ["math/bits.divideError", "math/bits.overflowError"], plainKeys := false, apart := false }
def MatrixEstimatesSaid : Prop := matrixEstimatesRow.holds Try.pinned (OpenSpec.ofChange matrixEstimatesSpec)

/-- ITS FALSE NEIGHBOUR: 'it returns false'. Refute it at one input. -/
def matrixEstimatesWrong : ChangeSpec := { name := "matrixEstimates", fn := fun _ => fun
  | [d1, d2, d3] => { results := [.lit (.bool false)], args := [d1, d2, d3] }
  | _ => none }
def MatrixEstimatesWrongFalsely : Prop := matrixEstimatesRow.holds Try.pinned (OpenSpec.ofChange matrixEstimatesWrong)

/-- 'exchangepointlaw38.MatrixScales': WHATEVER THE INPUT: true; the input reads as it did. -/
def matrixScalesSpec : ChangeSpec := { name := "matrixScales", fn := fun _ => fun
  | [d1, d2, d3] => { results := [.lit (.bool true)], args := [d1, d2, d3] }
  | _ => none }
def matrixScalesRow : OpenClaim := { program := "ytpdfmjkfplgkfaa", sum := "4b34772e80e3c292f509d820a5cfe7649a6e875ed778d5f5dd89922efb98d35c", func := "exchangepoint/exchangepointlaw38.MatrixScales", spec := "matrixScales", unfollowed := true, recurses := true, named := ["math/bits.divideError", "math/bits.overflowError"], plainKeys := false, apart := false }
def MatrixScalesSaid : Prop := matrixScalesRow.holds Try.pinned (OpenSpec.ofChange matrixScalesSpec)

/-- ITS FALSE NEIGHBOUR: 'it returns false'. Refute it at one input. -/
def matrixScalesWrong : ChangeSpec := { name := "matrixScales", fn := fun _ => fun
  | [d1, d2, d3] => { results := [.lit (.bool false)], args := [d1, d2, d3] }
  | _ => none }
def MatrixScalesWrongFalsely : Prop := matrixScalesRow.holds Try.pinned (OpenSpec.ofChange matrixScalesWrong)

/-- 'exchangepointlaw38.MatrixCells': WHATEVER THE INPUT: true; the input reads as it did. -/
def matrixCellsSpec : ChangeSpec := { name := "matrixCells", fn := fun _ => fun
  | [d1, d2, d3, d4, d5, d6] => { results := [.lit (.bool true)], args := [d1, d2, d3, d4, d5, d6] }
  | _ => none }
def matrixCellsRow : OpenClaim := { program := "ytpdfmjkfplgkfaa", sum := "4b34772e80e3c292f509d820a5cfe7649a6e875ed778d5f5dd89922efb98d35c", func := "exchangepoint/exchangepointlaw38.MatrixCells", spec := "matrixCells", unfollowed := true, recurses := true, named := ["math/bits.divideError", "math/bits.overflowError"], plainKeys := false, apart := false }
def MatrixCellsSaid : Prop := matrixCellsRow.holds Try.pinned (OpenSpec.ofChange matrixCellsSpec)

/-- ITS FALSE NEIGHBOUR: 'it returns false'. Refute it at one input. -/
def matrixCellsWrong : ChangeSpec := { name := "matrixCells", fn := fun _ => fun
  | [d1, d2, d3, d4, d5, d6] => { results := [.lit (.bool false)], args := [d1, d2, d3, d4, d5, d6] }
  | _ => none }
def MatrixCellsWrongFalsely : Prop := matrixCellsRow.holds Try.pinned (OpenSpec.ofChange matrixCellsWrong)

/-- 'exchangepointlaw38.MatrixSums': WHATEVER THE INPUT: true; the input reads as it did. -/
def matrixSumsSpec : ChangeSpec := { name := "matrixSums", fn := fun _ => fun
  | [d1, d2, d3] => { results := [.lit (.bool true)], args := [d1, d2, d3] }
  | _ => none }
def matrixSumsRow : OpenClaim := { program := "ytpdfmjkfplgkfaa", sum := "4b34772e80e3c292f509d820a5cfe7649a6e875ed778d5f5dd89922efb98d35c", func := "exchangepoint/exchangepointlaw38.MatrixSums", spec := "matrixSums", unfollowed := true, recurses := true, named := ["math/bits.divideError", "math/bits.overflowError"], plainKeys := false, apart := false }
def MatrixSumsSaid : Prop := matrixSumsRow.holds Try.pinned (OpenSpec.ofChange matrixSumsSpec)

/-- ITS FALSE NEIGHBOUR: 'it returns false'. Refute it at one input. -/
def matrixSumsWrong : ChangeSpec := { name := "matrixSums", fn := fun _ => fun
  | [d1, d2, d3] => { results := [.lit (.bool false)], args := [d1, d2, d3] }
  | _ => none }
def MatrixSumsWrongFalsely : Prop := matrixSumsRow.holds Try.pinned (OpenSpec.ofChange matrixSumsWrong)

/- THE SECOND FORM. 'bulk': how many values and letters a reading holds, each counted each time it is reached (what is shared counts as often as it is met; a slice's spare places count too). A statement '..UptoSaid' is the law's where the arguments, and the package variables that the reading takes, are together of bulk at most 1048576: NARROWER than '..Said'. Prove '..Said' where nothing that the law and all that it calls make is longer than what came in: it says more and counts as full. Else prove '..UptoSaid'. A law counts once. -/
mutual
def uptoBulk {H : Type} : DataW H → Nat
  | .lit (.string bytes) => bytes.length + 1
  | .lit _ => 1
  | .nil => 1
  | .ptr d => uptoBulk d + 1
  | .slice elems spare => uptoBulkAll elems + uptoBulkAll spare + 1
  | .agg parts => uptoBulkAll parts + 1
  | .iface _ d => uptoBulk d + 1
  | .map entries => uptoBulkEntries entries + 1
  | .held _ => 1
def uptoBulkAll {H : Type} : List (DataW H) → Nat
  | [] => 0
  | d :: r => uptoBulk d + uptoBulkAll r
def uptoBulkEntries {H : Type} : List (Lit × DataW H) → Nat
  | [] => 0
  | x :: r => uptoBulkEntry x + uptoBulkEntries r
def uptoBulkEntry {H : Type} : Lit × DataW H → Nat
  | (.string bytes, d) => bytes.length + uptoBulk d + 1
  | (_, d) => uptoBulk d + 1
 end
def uptoSmall : (H : Type) → List (DataW H) → Bool := fun _ ds => decide (uptoBulkAll ds ≤ 1048576)
def OpenSpec.upto (s : _root_.Go.ChangeSpec) : _root_.Go.OpenSpec := { _root_.Go.OpenSpec.ofChange s with cond := some uptoSmall }

/-- 'exchangepointlaw38.MatrixEstimates', WHERE WHAT IT READS IS OF BULK AT MOST 1048576: true; the input reads as it did. -/
def matrixEstimatesUptoRow : OpenClaim := { program := "ytpdfmjkfplgkfaa", sum := "4b34772e80e3c292f509d820a5cfe7649a6e875ed778d5f5dd89922efb98d35c", func := "exchangepoint/exchangepointlaw38.MatrixEstimates", spec := "matrixEstimates", unfollowed := true, recurses := true, named := ["math/bits.divideError", "math/bits.overflowError"], plainKeys := false, apart := false, narrowed := true }
def MatrixEstimatesUptoSaid : Prop := matrixEstimatesUptoRow.holds Try.pinned (OpenSpec.upto matrixEstimatesSpec)

/-- 'exchangepointlaw38.MatrixScales', WHERE WHAT IT READS IS OF BULK AT MOST 1048576: true; the input reads as it did. -/
def matrixScalesUptoRow : OpenClaim := { program := "ytpdfmjkfplgkfaa", sum := "4b34772e80e3c292f509d820a5cfe7649a6e875ed778d5f5dd89922efb98d35c", func := "exchangepoint/exchangepointlaw38.MatrixScales", spec := "matrixScales", unfollowed := true, recurses := true, named := ["math/bits.divideError", "math/bits.overflowError"], plainKeys := false, apart := false, narrowed := true }
def MatrixScalesUptoSaid : Prop := matrixScalesUptoRow.holds Try.pinned (OpenSpec.upto matrixScalesSpec)

/-- 'exchangepointlaw38.MatrixCells', WHERE WHAT IT READS IS OF BULK AT MOST 1048576: true; the input reads as it did. -/
def matrixCellsUptoRow : OpenClaim := { program := "ytpdfmjkfplgkfaa", sum := "4b34772e80e3c292f509d820a5cfe7649a6e875ed778d5f5dd89922efb98d35c", func := "exchangepoint/exchangepointlaw38.MatrixCells", spec := "matrixCells", unfollowed := true, recurses := true, named := ["math/bits.divideError", "math/bits.overflowError"], plainKeys := false, apart := false, narrowed := true }
def MatrixCellsUptoSaid : Prop := matrixCellsUptoRow.holds Try.pinned (OpenSpec.upto matrixCellsSpec)

/-- 'exchangepointlaw38.MatrixSums', WHERE WHAT IT READS IS OF BULK AT MOST 1048576: true; the input reads as it did. -/
def matrixSumsUptoRow : OpenClaim := { program := "ytpdfmjkfplgkfaa", sum := "4b34772e80e3c292f509d820a5cfe7649a6e875ed778d5f5dd89922efb98d35c", func := "exchangepoint/exchangepointlaw38.MatrixSums", spec := "matrixSums", unfollowed := true, recurses := true, named := ["math/bits.divideError", "math/bits.overflowError"], plainKeys := false, apart := false, narrowed := true }
def MatrixSumsUptoSaid : Prop := matrixSumsUptoRow.holds Try.pinned (OpenSpec.upto matrixSumsSpec)

end Rows
end Go.Proofs.Ytpdfmjkfplgkfaa

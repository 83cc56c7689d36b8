/-
  NARROWER THAN 'FOR EVERY INPUT', by the rows' own cells (each row's printed sentence says how): ResourceJoins: laid · ResourceSets: laid.
  DERIVED. THE GIVEN ROWS OF THIS SEAT. 2 by the template 'for every input the law returns true; each argument reads behind the call as it read before'; 0 by the template 'total and deterministic' (their statements: YtgcilleccigmdaaGreatDoorTotals.lean).
  GIVEN WITH THE SEED: the statements are not yours to turn. If you find one false, say at which input.
  Laid BY PROGRAM, IN A SANDBOX (cutbox-rows.mjs): the forced cells as the released guide's own fill.sh prints them over the translation 842ec72bea92515c… (all of the seat's roots in one cut). By AI agents, Wed Nov 11 2026. No macro, syntax, notation, axiom, sorry.
-/
import Derived.Test.YtgcilleccigmdaaGreatDoorChecked
import GoSem.Claim
import GoSem.ClaimJoined
import GoSem.ClaimMapViews
import Derived.JoinedTies
import Derived.KernelRfl
namespace Go.Proofs.YtgcilleccigmdaaGreatDoor
/- THE CELL 'sum', in the pinned program and in every row, IS THE sha256 OF THE DUMP (.gsa) THAT YtgcilleccigmdaaGreatDoorProg.lean LOADS. Nothing in Lean hashes anything: it is a label: what it is worth is what the hold of that sum in a sandbox is worth. -/
noncomputable def Tryz.pinned : Pinned := { name := "ytgcilleccigmdaagreatdoor", sum := "842ec72bea92515cec7db21844d2b948c6e148ca1a4e7e7289f7c270db872af6", checked := Tryz.checked }
namespace Rows
def none {H : Type} : Left H := { results := [], args := [] }

/- WHAT THE LISTED PACKAGE-LEVEL VARIABLES READ AS WHEN THE CALL BEGINS. Each datum BY PROGRAM (the guide's laid-datum.mjs) off the statement by which the dump's own 'gosem.cut.vars' lays the variable. In a bare row this is a premise. The card (YtgcilleccigmdaaGreatDoorCards.lean) ties it to the program's text. -/
def laid_exchangepoint_resource_addresses {H : Type} : DataW H := .iface "func table" (.agg [.iface "func" (.lit (.string [101, 120, 99, 104, 97, 110, 103, 101, 112, 111, 105, 110, 116, 47, 97, 100, 100, 114, 46, 67, 109, 112])), .iface "func" (.lit (.string [101, 120, 99, 104, 97, 110, 103, 101, 112, 111, 105, 110, 116, 47, 97, 100, 100, 114, 46, 78, 101, 120, 116])), .iface "func" (.lit (.string [101, 120, 99, 104, 97, 110, 103, 101, 112, 111, 105, 110, 116, 47, 114, 101, 115, 111, 117, 114, 99, 101, 46, 98, 101, 102, 111, 114, 101]))])
def laid_exchangepoint_resource_numbers {H : Type} : DataW H := .iface "func table" (.agg [.iface "func" (.lit (.string [99, 109, 112, 46, 67, 111, 109, 112, 97, 114, 101, 91, 105, 110, 116, 93])), .iface "func" (.lit (.string [101, 120, 99, 104, 97, 110, 103, 101, 112, 111, 105, 110, 116, 47, 114, 101, 115, 111, 117, 114, 99, 101, 46, 110, 117, 109, 98, 101, 114, 115, 36, 49])), .iface "func" (.lit (.string [101, 120, 99, 104, 97, 110, 103, 101, 112, 111, 105, 110, 116, 47, 114, 101, 115, 111, 117, 114, 99, 101, 46, 110, 117, 109, 98, 101, 114, 115, 36, 50]))])

/-- 'exchangepointlaw21.ResourceJoins': WHATEVER THE INPUT: true; the input reads as it did. -/
def resourceJoinsSpec : ChangeSpec := { name := "resourceJoins", fn := fun _ => fun
  | [d1, d2, d3, d4, d5] => { results := [.lit (.bool true)], args := [d1, d2, d3, d4, d5] }
  | _ => none }
def resourceJoinsRow : OpenClaim := { program := "ytgcilleccigmdaagreatdoor", sum := "842ec72bea92515cec7db21844d2b948c6e148ca1a4e7e7289f7c270db872af6", func := "exchangepoint/exchangepointlaw21.ResourceJoins", spec := "resourceJoins", unfollowed := true, recurses := true, named := ["exchangepoint/resource.addresses", "exchangepoint/resource.numbers"], apart := false, laid := [("exchangepoint/resource.addresses", laid_exchangepoint_resource_addresses), ("exchangepoint/resource.numbers", laid_exchangepoint_resource_numbers)] }
def ResourceJoinsSaid : Prop := resourceJoinsRow.holds Tryz.pinned (OpenSpec.ofChange resourceJoinsSpec)

/-- ITS FALSE NEIGHBOUR: 'it returns false'. Refute it at one input. -/
def resourceJoinsWrong : ChangeSpec := { name := "resourceJoins", fn := fun _ => fun
  | [d1, d2, d3, d4, d5] => { results := [.lit (.bool false)], args := [d1, d2, d3, d4, d5] }
  | _ => none }
def ResourceJoinsWrongFalsely : Prop := resourceJoinsRow.holds Tryz.pinned (OpenSpec.ofChange resourceJoinsWrong)

/-- 'exchangepointlaw21.ResourceSets': WHATEVER THE INPUT: true; the input reads as it did. -/
def resourceSetsSpec : ChangeSpec := { name := "resourceSets", fn := fun _ => fun
  | [d1, d2, d3, d4] => { results := [.lit (.bool true)], args := [d1, d2, d3, d4] }
  | _ => none }
def resourceSetsRow : OpenClaim := { program := "ytgcilleccigmdaagreatdoor", sum := "842ec72bea92515cec7db21844d2b948c6e148ca1a4e7e7289f7c270db872af6", func := "exchangepoint/exchangepointlaw21.ResourceSets", spec := "resourceSets", unfollowed := true, recurses := true, named := ["exchangepoint/resource.addresses", "exchangepoint/resource.numbers"], apart := false, laid := [("exchangepoint/resource.addresses", laid_exchangepoint_resource_addresses), ("exchangepoint/resource.numbers", laid_exchangepoint_resource_numbers)] }
def ResourceSetsSaid : Prop := resourceSetsRow.holds Tryz.pinned (OpenSpec.ofChange resourceSetsSpec)

/-- ITS FALSE NEIGHBOUR: 'it returns false'. Refute it at one input. -/
def resourceSetsWrong : ChangeSpec := { name := "resourceSets", fn := fun _ => fun
  | [d1, d2, d3, d4] => { results := [.lit (.bool false)], args := [d1, d2, d3, d4] }
  | _ => none }
def ResourceSetsWrongFalsely : Prop := resourceSetsRow.holds Tryz.pinned (OpenSpec.ofChange resourceSetsWrong)

/- THE SECOND FORM. 'bulk': how many values and letters a reading holds, each counted each time it is reached (what is shared counts as often as it is met; a slice's spare places count too). A statement '..UptoSaid' is the law's where the arguments, and the package variables that the reading takes, are together of bulk at most 1048576: NARROWER than '..Said'. Prove '..Said' where nothing that the law and all that it calls make is longer than what came in: it says more and counts as full. Else prove '..UptoSaid'. A law counts once. -/
mutual
def uptoBulk {H : Type} : DataW H → Nat
  | .lit (.string bytes) => bytes.length + 1
  | .lit _ => 1
  | .nil => 1
  | .ptr d => uptoBulk d + 1
  | .slice elems spare => uptoBulkAll elems + uptoBulkAll spare + 1
  | .agg parts => uptoBulkAll parts + 1
  | .iface _ d => uptoBulk d + 1
  | .map entries => uptoBulkEntries entries + 1
  | .held _ => 1
def uptoBulkAll {H : Type} : List (DataW H) → Nat
  | [] => 0
  | d :: r => uptoBulk d + uptoBulkAll r
def uptoBulkEntries {H : Type} : List (Lit × DataW H) → Nat
  | [] => 0
  | x :: r => uptoBulkEntry x + uptoBulkEntries r
def uptoBulkEntry {H : Type} : Lit × DataW H → Nat
  | (.string bytes, d) => bytes.length + uptoBulk d + 1
  | (_, d) => uptoBulk d + 1
 end
def uptoSmall : (H : Type) → List (DataW H) → Bool := fun _ ds => decide (uptoBulkAll ds ≤ 1048576)
def OpenSpec.upto (s : _root_.Go.ChangeSpec) : _root_.Go.OpenSpec := { _root_.Go.OpenSpec.ofChange s with cond := some uptoSmall }

/-- 'exchangepointlaw21.ResourceJoins', WHERE WHAT IT READS IS OF BULK AT MOST 1048576: true; the input reads as it did. -/
def resourceJoinsUptoRow : OpenClaim := { program := "ytgcilleccigmdaagreatdoor", sum := "842ec72bea92515cec7db21844d2b948c6e148ca1a4e7e7289f7c270db872af6", func := "exchangepoint/exchangepointlaw21.ResourceJoins", spec := "resourceJoins", unfollowed := true, recurses := true, named := ["exchangepoint/resource.addresses", "exchangepoint/resource.numbers"], apart := false, laid := [("exchangepoint/resource.addresses", laid_exchangepoint_resource_addresses), ("exchangepoint/resource.numbers", laid_exchangepoint_resource_numbers)], narrowed := true }
def ResourceJoinsUptoSaid : Prop := resourceJoinsUptoRow.holds Tryz.pinned (OpenSpec.upto resourceJoinsSpec)

/-- 'exchangepointlaw21.ResourceSets', WHERE WHAT IT READS IS OF BULK AT MOST 1048576: true; the input reads as it did. -/
def resourceSetsUptoRow : OpenClaim := { program := "ytgcilleccigmdaagreatdoor", sum := "842ec72bea92515cec7db21844d2b948c6e148ca1a4e7e7289f7c270db872af6", func := "exchangepoint/exchangepointlaw21.ResourceSets", spec := "resourceSets", unfollowed := true, recurses := true, named := ["exchangepoint/resource.addresses", "exchangepoint/resource.numbers"], apart := false, laid := [("exchangepoint/resource.addresses", laid_exchangepoint_resource_addresses), ("exchangepoint/resource.numbers", laid_exchangepoint_resource_numbers)], narrowed := true }
def ResourceSetsUptoSaid : Prop := resourceSetsUptoRow.holds Tryz.pinned (OpenSpec.upto resourceSetsSpec)

end Rows
end Go.Proofs.YtgcilleccigmdaaGreatDoor

/-
  NARROWER THAN 'FOR EVERY INPUT', by the rows' own cells (each row's printed sentence says how): PackMessages: laid · PackLong: laid · PackBack: laid · PackFull: laid.
  DERIVED. THE GIVEN ROWS OF THIS SEAT. 4 by the template 'for every input the law returns true; each argument reads behind the call as it read before'; 0 by the template 'total and deterministic' (their statements: YtkhjkjojjdkidaaGreatDoorTotals.lean).
  GIVEN WITH THE SEED: the statements are not yours to turn. If you find one false, say at which input.
  Laid BY PROGRAM, IN A SANDBOX (cutbox-rows.mjs): the forced cells as the released guide's own fill.sh prints them over the translation fa02e21024933951… (all of the seat's roots in one cut). By AI agents, Wed Nov 11 2026. No macro, syntax, notation, axiom, sorry.
-/
import Derived.Test.YtkhjkjojjdkidaaGreatDoorChecked
import GoSem.Claim
import GoSem.ClaimJoined
import GoSem.ClaimMapViews
import Derived.JoinedTies
import Derived.KernelRfl
namespace Go.Proofs.YtkhjkjojjdkidaaGreatDoor
/- THE CELL 'sum', in the pinned program and in every row, IS THE sha256 OF THE DUMP (.gsa) THAT YtkhjkjojjdkidaaGreatDoorProg.lean LOADS. Nothing in Lean hashes anything: it is a label: what it is worth is what the hold of that sum in a sandbox is worth. -/
noncomputable def Tryz.pinned : Pinned := { name := "ytkhjkjojjdkidaagreatdoor", sum := "fa02e21024933951f23ef4d5631518466bfc3e5edab3c20dc854181c3b055386", checked := Tryz.checked }
namespace Rows
def none {H : Type} : Left H := { results := [], args := [] }

/- WHAT THE LISTED PACKAGE-LEVEL VARIABLES READ AS WHEN THE CALL BEGINS. Each datum BY PROGRAM (the guide's laid-datum.mjs) off the statement by which the dump's own 'gosem.cut.vars' lays the variable. In a bare row this is a premise. The card (YtkhjkjojjdkidaaGreatDoorCards.lean) ties it to the program's text. -/
def laid_exchangepoint_attribute_flags {H : Type} : DataW H := .map [(.int .i64 1, .lit (.int .i64 64)), (.int .i64 2, .lit (.int .i64 64)), (.int .i64 3, .lit (.int .i64 64)), (.int .i64 4, .lit (.int .i64 128)), (.int .i64 5, .lit (.int .i64 64)), (.int .i64 8, .lit (.int .i64 192)), (.int .i64 32, .lit (.int .i64 192)), (.int .i64 35, .lit (.int .i64 192))]

/-- 'exchangepointlaw30.PackMessages': WHATEVER THE INPUT: true; the input reads as it did. -/
def packMessagesSpec : ChangeSpec := { name := "packMessages", fn := fun _ => fun
  | [d1, d2, d3, d4] => { results := [.lit (.bool true)], args := [d1, d2, d3, d4] }
  | _ => none }
def packMessagesRow : OpenClaim := { program := "ytkhjkjojjdkidaagreatdoor", sum := "fa02e21024933951f23ef4d5631518466bfc3e5edab3c20dc854181c3b055386", func := "exchangepoint/exchangepointlaw30.PackMessages", spec := "packMessages", unfollowed := true, recurses := true, named := ["exchangepoint/attribute.flags"], plainKeys := false, apart := false, laid := [("exchangepoint/attribute.flags", laid_exchangepoint_attribute_flags)] }
def PackMessagesSaid : Prop := packMessagesRow.holds Tryz.pinned (OpenSpec.ofChange packMessagesSpec)

/-- ITS FALSE NEIGHBOUR: 'it returns false'. Refute it at one input. -/
def packMessagesWrong : ChangeSpec := { name := "packMessages", fn := fun _ => fun
  | [d1, d2, d3, d4] => { results := [.lit (.bool false)], args := [d1, d2, d3, d4] }
  | _ => none }
def PackMessagesWrongFalsely : Prop := packMessagesRow.holds Tryz.pinned (OpenSpec.ofChange packMessagesWrong)

/-- 'exchangepointlaw30.PackLong': WHATEVER THE INPUT: true; the input reads as it did. -/
def packLongSpec : ChangeSpec := { name := "packLong", fn := fun _ => fun
  | [d1, d2] => { results := [.lit (.bool true)], args := [d1, d2] }
  | _ => none }
def packLongRow : OpenClaim := { program := "ytkhjkjojjdkidaagreatdoor", sum := "fa02e21024933951f23ef4d5631518466bfc3e5edab3c20dc854181c3b055386", func := "exchangepoint/exchangepointlaw30.PackLong", spec := "packLong", unfollowed := true, recurses := true, named := ["exchangepoint/attribute.flags"], plainKeys := false, apart := false, laid := [("exchangepoint/attribute.flags", laid_exchangepoint_attribute_flags)] }
def PackLongSaid : Prop := packLongRow.holds Tryz.pinned (OpenSpec.ofChange packLongSpec)

/-- ITS FALSE NEIGHBOUR: 'it returns false'. Refute it at one input. -/
def packLongWrong : ChangeSpec := { name := "packLong", fn := fun _ => fun
  | [d1, d2] => { results := [.lit (.bool false)], args := [d1, d2] }
  | _ => none }
def PackLongWrongFalsely : Prop := packLongRow.holds Tryz.pinned (OpenSpec.ofChange packLongWrong)

/-- 'exchangepointlaw30.PackBack': WHATEVER THE INPUT: true; the input reads as it did. -/
def packBackSpec : ChangeSpec := { name := "packBack", fn := fun _ => fun
  | [d1, d2] => { results := [.lit (.bool true)], args := [d1, d2] }
  | _ => none }
def packBackRow : OpenClaim := { program := "ytkhjkjojjdkidaagreatdoor", sum := "fa02e21024933951f23ef4d5631518466bfc3e5edab3c20dc854181c3b055386", func := "exchangepoint/exchangepointlaw30.PackBack", spec := "packBack", unfollowed := true, recurses := true, named := ["exchangepoint/attribute.flags"], plainKeys := false, apart := false, laid := [("exchangepoint/attribute.flags", laid_exchangepoint_attribute_flags)] }
def PackBackSaid : Prop := packBackRow.holds Tryz.pinned (OpenSpec.ofChange packBackSpec)

/-- ITS FALSE NEIGHBOUR: 'it returns false'. Refute it at one input. -/
def packBackWrong : ChangeSpec := { name := "packBack", fn := fun _ => fun
  | [d1, d2] => { results := [.lit (.bool false)], args := [d1, d2] }
  | _ => none }
def PackBackWrongFalsely : Prop := packBackRow.holds Tryz.pinned (OpenSpec.ofChange packBackWrong)

/-- 'exchangepointlaw30.PackFull': WHATEVER THE INPUT: true; the input reads as it did. -/
def packFullSpec : ChangeSpec := { name := "packFull", fn := fun _ => fun
  | [d1, d2] => { results := [.lit (.bool true)], args := [d1, d2] }
  | _ => none }
def packFullRow : OpenClaim := { program := "ytkhjkjojjdkidaagreatdoor", sum := "fa02e21024933951f23ef4d5631518466bfc3e5edab3c20dc854181c3b055386", func := "exchangepoint/exchangepointlaw30.PackFull", spec := "packFull", unfollowed := true, recurses := true, named := ["exchangepoint/attribute.flags"], plainKeys := false, apart := false, laid := [("exchangepoint/attribute.flags", laid_exchangepoint_attribute_flags)] }
def PackFullSaid : Prop := packFullRow.holds Tryz.pinned (OpenSpec.ofChange packFullSpec)

/-- ITS FALSE NEIGHBOUR: 'it returns false'. Refute it at one input. -/
def packFullWrong : ChangeSpec := { name := "packFull", fn := fun _ => fun
  | [d1, d2] => { results := [.lit (.bool false)], args := [d1, d2] }
  | _ => none }
def PackFullWrongFalsely : Prop := packFullRow.holds Tryz.pinned (OpenSpec.ofChange packFullWrong)

/- THE SECOND FORM. 'bulk': how many values and letters a reading holds, each counted each time it is reached (what is shared counts as often as it is met; a slice's spare places count too). A statement '..UptoSaid' is the law's where the arguments, and the package variables that the reading takes, are together of bulk at most 1048576: NARROWER than '..Said'. Prove '..Said' where nothing that the law and all that it calls make is longer than what came in: it says more and counts as full. Else prove '..UptoSaid'. A law counts once. -/
mutual
def uptoBulk {H : Type} : DataW H → Nat
  | .lit (.string bytes) => bytes.length + 1
  | .lit _ => 1
  | .nil => 1
  | .ptr d => uptoBulk d + 1
  | .slice elems spare => uptoBulkAll elems + uptoBulkAll spare + 1
  | .agg parts => uptoBulkAll parts + 1
  | .iface _ d => uptoBulk d + 1
  | .map entries => uptoBulkEntries entries + 1
  | .held _ => 1
def uptoBulkAll {H : Type} : List (DataW H) → Nat
  | [] => 0
  | d :: r => uptoBulk d + uptoBulkAll r
def uptoBulkEntries {H : Type} : List (Lit × DataW H) → Nat
  | [] => 0
  | x :: r => uptoBulkEntry x + uptoBulkEntries r
def uptoBulkEntry {H : Type} : Lit × DataW H → Nat
  | (.string bytes, d) => bytes.length + uptoBulk d + 1
  | (_, d) => uptoBulk d + 1
 end
def uptoSmall : (H : Type) → List (DataW H) → Bool := fun _ ds => decide (uptoBulkAll ds ≤ 1048576)
def OpenSpec.upto (s : _root_.Go.ChangeSpec) : _root_.Go.OpenSpec := { _root_.Go.OpenSpec.ofChange s with cond := some uptoSmall }

/-- 'exchangepointlaw30.PackMessages', WHERE WHAT IT READS IS OF BULK AT MOST 1048576: true; the input reads as it did. -/
def packMessagesUptoRow : OpenClaim := { program := "ytkhjkjojjdkidaagreatdoor", sum := "fa02e21024933951f23ef4d5631518466bfc3e5edab3c20dc854181c3b055386", func := "exchangepoint/exchangepointlaw30.PackMessages", spec := "packMessages", unfollowed := true, recurses := true, named := ["exchangepoint/attribute.flags"], plainKeys := false, apart := false, laid := [("exchangepoint/attribute.flags", laid_exchangepoint_attribute_flags)], narrowed := true }
def PackMessagesUptoSaid : Prop := packMessagesUptoRow.holds Tryz.pinned (OpenSpec.upto packMessagesSpec)

/-- 'exchangepointlaw30.PackLong', WHERE WHAT IT READS IS OF BULK AT MOST 1048576: true; the input reads as it did. -/
def packLongUptoRow : OpenClaim := { program := "ytkhjkjojjdkidaagreatdoor", sum := "fa02e21024933951f23ef4d5631518466bfc3e5edab3c20dc854181c3b055386", func := "exchangepoint/exchangepointlaw30.PackLong", spec := "packLong", unfollowed := true, recurses := true, named := ["exchangepoint/attribute.flags"], plainKeys := false, apart := false, laid := [("exchangepoint/attribute.flags", laid_exchangepoint_attribute_flags)], narrowed := true }
def PackLongUptoSaid : Prop := packLongUptoRow.holds Tryz.pinned (OpenSpec.upto packLongSpec)

/-- 'exchangepointlaw30.PackBack', WHERE WHAT IT READS IS OF BULK AT MOST 1048576: true; the input reads as it did. -/
def packBackUptoRow : OpenClaim := { program := "ytkhjkjojjdkidaagreatdoor", sum := "fa02e21024933951f23ef4d5631518466bfc3e5edab3c20dc854181c3b055386", func := "exchangepoint/exchangepointlaw30.PackBack", spec := "packBack", unfollowed := true, recurses := true, named := ["exchangepoint/attribute.flags"], plainKeys := false, apart := false, laid := [("exchangepoint/attribute.flags", laid_exchangepoint_attribute_flags)], narrowed := true }
def PackBackUptoSaid : Prop := packBackUptoRow.holds Tryz.pinned (OpenSpec.upto packBackSpec)

/-- 'exchangepointlaw30.PackFull', WHERE WHAT IT READS IS OF BULK AT MOST 1048576: true; the input reads as it did. -/
def packFullUptoRow : OpenClaim := { program := "ytkhjkjojjdkidaagreatdoor", sum := "fa02e21024933951f23ef4d5631518466bfc3e5edab3c20dc854181c3b055386", func := "exchangepoint/exchangepointlaw30.PackFull", spec := "packFull", unfollowed := true, recurses := true, named := ["exchangepoint/attribute.flags"], plainKeys := false, apart := false, laid := [("exchangepoint/attribute.flags", laid_exchangepoint_attribute_flags)], narrowed := true }
def PackFullUptoSaid : Prop := packFullUptoRow.holds Tryz.pinned (OpenSpec.upto packFullSpec)

end Rows
end Go.Proofs.YtkhjkjojjdkidaaGreatDoor

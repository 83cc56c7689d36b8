/-
  NARROWER THAN 'FOR EVERY INPUT', by the rows' own cells (each row's printed sentence says how): OriginTrusts: laid · OriginHolders: laid · OriginMore: laid · OriginPayloads: laid · OriginTimes: laid.
  DERIVED. THE GIVEN ROWS OF THIS SEAT. 5 by the template 'for every input the law returns true; each argument reads behind the call as it read before'; 0 by the template 'total and deterministic' (their statements: YtgfoabcickjphaaGreatDoorTotals.lean).
  GIVEN WITH THE SEED: the statements are not yours to turn. If you find one false, say at which input.
  Laid BY PROGRAM, IN A SANDBOX (cutbox-rows.mjs): the forced cells as the released guide's own fill.sh prints them over the translation 36a55c33dbbf30e1… (all of the seat's roots in one cut). By AI agents, Wed Nov 11 2026. No macro, syntax, notation, axiom, sorry.
-/
import Derived.Test.YtgfoabcickjphaaGreatDoorChecked
import GoSem.Claim
import GoSem.ClaimJoined
import GoSem.ClaimMapViews
import Derived.JoinedTies
import Derived.KernelRfl
namespace Go.Proofs.YtgfoabcickjphaaGreatDoor
/- THE CELL 'sum', in the pinned program and in every row, IS THE sha256 OF THE DUMP (.gsa) THAT YtgfoabcickjphaaGreatDoorProg.lean LOADS. Nothing in Lean hashes anything: it is a label: what it is worth is what the hold of that sum in a sandbox is worth. -/
noncomputable def Tryz.pinned : Pinned := { name := "ytgfoabcickjphaagreatdoor", sum := "36a55c33dbbf30e1706aebd6072c0411f76910ea9368095fd0762f864a4f440a", checked := Tryz.checked }
namespace Rows
def none {H : Type} : Left H := { results := [], args := [] }

/- WHAT THE LISTED PACKAGE-LEVEL VARIABLES READ AS WHEN THE CALL BEGINS. Each datum BY PROGRAM (the guide's laid-datum.mjs) off the statement by which the dump's own 'gosem.cut.vars' lays the variable. In a bare row this is a premise. The card (YtgfoabcickjphaaGreatDoorCards.lean) ties it to the program's text. -/
def laid_exchangepoint_resource_addresses {H : Type} : DataW H := .iface "func table" (.agg [.iface "func" (.lit (.string [101, 120, 99, 104, 97, 110, 103, 101, 112, 111, 105, 110, 116, 47, 97, 100, 100, 114, 46, 67, 109, 112])), .iface "func" (.lit (.string [101, 120, 99, 104, 97, 110, 103, 101, 112, 111, 105, 110, 116, 47, 97, 100, 100, 114, 46, 78, 101, 120, 116])), .iface "func" (.lit (.string [101, 120, 99, 104, 97, 110, 103, 101, 112, 111, 105, 110, 116, 47, 114, 101, 115, 111, 117, 114, 99, 101, 46, 98, 101, 102, 111, 114, 101]))])
def laid_exchangepoint_resource_numbers {H : Type} : DataW H := .iface "func table" (.agg [.iface "func" (.lit (.string [99, 109, 112, 46, 67, 111, 109, 112, 97, 114, 101, 91, 105, 110, 116, 93])), .iface "func" (.lit (.string [101, 120, 99, 104, 97, 110, 103, 101, 112, 111, 105, 110, 116, 47, 114, 101, 115, 111, 117, 114, 99, 101, 46, 110, 117, 109, 98, 101, 114, 115, 36, 49])), .iface "func" (.lit (.string [101, 120, 99, 104, 97, 110, 103, 101, 112, 111, 105, 110, 116, 47, 114, 101, 115, 111, 117, 114, 99, 101, 46, 110, 117, 109, 98, 101, 114, 115, 36, 50]))])

/-- 'exchangepointlaw22.OriginTrusts': WHATEVER THE INPUT: true; the input reads as it did. -/
def originTrustsSpec : ChangeSpec := { name := "originTrusts", fn := fun _ => fun
  | [d1, d2, d3, d4, d5] => { results := [.lit (.bool true)], args := [d1, d2, d3, d4, d5] }
  | _ => none }
def originTrustsRow : OpenClaim := { program := "ytgfoabcickjphaagreatdoor", sum := "36a55c33dbbf30e1706aebd6072c0411f76910ea9368095fd0762f864a4f440a", func := "exchangepoint/exchangepointlaw22.OriginTrusts", spec := "originTrusts", unfollowed := true, recurses := true, named := ["exchangepoint/resource.addresses", "exchangepoint/resource.numbers"], plainKeys := false, apart := false, laid := [("exchangepoint/resource.addresses", laid_exchangepoint_resource_addresses), ("exchangepoint/resource.numbers", laid_exchangepoint_resource_numbers)] }
def OriginTrustsSaid : Prop := originTrustsRow.holds Tryz.pinned (OpenSpec.ofChange originTrustsSpec)

/-- ITS FALSE NEIGHBOUR: 'it returns false'. Refute it at one input. -/
def originTrustsWrong : ChangeSpec := { name := "originTrusts", fn := fun _ => fun
  | [d1, d2, d3, d4, d5] => { results := [.lit (.bool false)], args := [d1, d2, d3, d4, d5] }
  | _ => none }
def OriginTrustsWrongFalsely : Prop := originTrustsRow.holds Tryz.pinned (OpenSpec.ofChange originTrustsWrong)

/-- 'exchangepointlaw22.OriginHolders': WHATEVER THE INPUT: true; the input reads as it did. -/
def originHoldersSpec : ChangeSpec := { name := "originHolders", fn := fun _ => fun
  | [d1, d2, d3] => { results := [.lit (.bool true)], args := [d1, d2, d3] }
  | _ => none }
def originHoldersRow : OpenClaim := { program := "ytgfoabcickjphaagreatdoor", sum := "36a55c33dbbf30e1706aebd6072c0411f76910ea9368095fd0762f864a4f440a", func := "exchangepoint/exchangepointlaw22.OriginHolders", spec := "originHolders", unfollowed := true, recurses := true, named := ["exchangepoint/resource.addresses", "exchangepoint/resource.numbers"], plainKeys := false, apart := false, laid := [("exchangepoint/resource.addresses", laid_exchangepoint_resource_addresses), ("exchangepoint/resource.numbers", laid_exchangepoint_resource_numbers)] }
def OriginHoldersSaid : Prop := originHoldersRow.holds Tryz.pinned (OpenSpec.ofChange originHoldersSpec)

/-- ITS FALSE NEIGHBOUR: 'it returns false'. Refute it at one input. -/
def originHoldersWrong : ChangeSpec := { name := "originHolders", fn := fun _ => fun
  | [d1, d2, d3] => { results := [.lit (.bool false)], args := [d1, d2, d3] }
  | _ => none }
def OriginHoldersWrongFalsely : Prop := originHoldersRow.holds Tryz.pinned (OpenSpec.ofChange originHoldersWrong)

/-- 'exchangepointlaw22.OriginMore': WHATEVER THE INPUT: true; the input reads as it did. -/
def originMoreSpec : ChangeSpec := { name := "originMore", fn := fun _ => fun
  | [d1, d2, d3, d4] => { results := [.lit (.bool true)], args := [d1, d2, d3, d4] }
  | _ => none }
def originMoreRow : OpenClaim := { program := "ytgfoabcickjphaagreatdoor", sum := "36a55c33dbbf30e1706aebd6072c0411f76910ea9368095fd0762f864a4f440a", func := "exchangepoint/exchangepointlaw22.OriginMore", spec := "originMore", unfollowed := true, recurses := true, named := ["exchangepoint/resource.addresses", "exchangepoint/resource.numbers"], plainKeys := false, apart := false, laid := [("exchangepoint/resource.addresses", laid_exchangepoint_resource_addresses), ("exchangepoint/resource.numbers", laid_exchangepoint_resource_numbers)] }
def OriginMoreSaid : Prop := originMoreRow.holds Tryz.pinned (OpenSpec.ofChange originMoreSpec)

/-- ITS FALSE NEIGHBOUR: 'it returns false'. Refute it at one input. -/
def originMoreWrong : ChangeSpec := { name := "originMore", fn := fun _ => fun
  | [d1, d2, d3, d4] => { results := [.lit (.bool false)], args := [d1, d2, d3, d4] }
  | _ => none }
def OriginMoreWrongFalsely : Prop := originMoreRow.holds Tryz.pinned (OpenSpec.ofChange originMoreWrong)

/-- 'exchangepointlaw22.OriginPayloads': WHATEVER THE INPUT: true; the input reads as it did. -/
def originPayloadsSpec : ChangeSpec := { name := "originPayloads", fn := fun _ => fun
  | [d1, d2, d3, d4] => { results := [.lit (.bool true)], args := [d1, d2, d3, d4] }
  | _ => none }
def originPayloadsRow : OpenClaim := { program := "ytgfoabcickjphaagreatdoor", sum := "36a55c33dbbf30e1706aebd6072c0411f76910ea9368095fd0762f864a4f440a", func := "exchangepoint/exchangepointlaw22.OriginPayloads", spec := "originPayloads", unfollowed := true, recurses := true, named := ["exchangepoint/resource.addresses", "exchangepoint/resource.numbers"], plainKeys := false, apart := false, laid := [("exchangepoint/resource.addresses", laid_exchangepoint_resource_addresses), ("exchangepoint/resource.numbers", laid_exchangepoint_resource_numbers)] }
def OriginPayloadsSaid : Prop := originPayloadsRow.holds Tryz.pinned (OpenSpec.ofChange originPayloadsSpec)

/-- ITS FALSE NEIGHBOUR: 'it returns false'. Refute it at one input. -/
def originPayloadsWrong : ChangeSpec := { name := "originPayloads", fn := fun _ => fun
  | [d1, d2, d3, d4] => { results := [.lit (.bool false)], args := [d1, d2, d3, d4] }
  | _ => none }
def OriginPayloadsWrongFalsely : Prop := originPayloadsRow.holds Tryz.pinned (OpenSpec.ofChange originPayloadsWrong)

/-- 'exchangepointlaw22.OriginTimes': WHATEVER THE INPUT: true; the input reads as it did. -/
def originTimesSpec : ChangeSpec := { name := "originTimes", fn := fun _ => fun
  | [d1, d2] => { results := [.lit (.bool true)], args := [d1, d2] }
  | _ => none }
def originTimesRow : OpenClaim := { program := "ytgfoabcickjphaagreatdoor", sum := "36a55c33dbbf30e1706aebd6072c0411f76910ea9368095fd0762f864a4f440a", func := "exchangepoint/exchangepointlaw22.OriginTimes", spec := "originTimes", unfollowed := true, recurses := true, named := ["exchangepoint/resource.addresses", "exchangepoint/resource.numbers"], plainKeys := false, apart := false, laid := [("exchangepoint/resource.addresses", laid_exchangepoint_resource_addresses), ("exchangepoint/resource.numbers", laid_exchangepoint_resource_numbers)] }
def OriginTimesSaid : Prop := originTimesRow.holds Tryz.pinned (OpenSpec.ofChange originTimesSpec)

/-- ITS FALSE NEIGHBOUR: 'it returns false'. Refute it at one input. -/
def originTimesWrong : ChangeSpec := { name := "originTimes", fn := fun _ => fun
  | [d1, d2] => { results := [.lit (.bool false)], args := [d1, d2] }
  | _ => none }
def OriginTimesWrongFalsely : Prop := originTimesRow.holds Tryz.pinned (OpenSpec.ofChange originTimesWrong)

/- THE SECOND FORM. 'bulk': how many values and letters a reading holds, each counted each time it is reached (what is shared counts as often as it is met; a slice's spare places count too). A statement '..UptoSaid' is the law's where the arguments, and the package variables that the reading takes, are together of bulk at most 1048576: NARROWER than '..Said'. Prove '..Said' where nothing that the law and all that it calls make is longer than what came in: it says more and counts as full. Else prove '..UptoSaid'. A law counts once. -/
mutual
def uptoBulk {H : Type} : DataW H → Nat
  | .lit (.string bytes) => bytes.length + 1
  | .lit _ => 1
  | .nil => 1
  | .ptr d => uptoBulk d + 1
  | .slice elems spare => uptoBulkAll elems + uptoBulkAll spare + 1
  | .agg parts => uptoBulkAll parts + 1
  | .iface _ d => uptoBulk d + 1
  | .map entries => uptoBulkEntries entries + 1
  | .held _ => 1
def uptoBulkAll {H : Type} : List (DataW H) → Nat
  | [] => 0
  | d :: r => uptoBulk d + uptoBulkAll r
def uptoBulkEntries {H : Type} : List (Lit × DataW H) → Nat
  | [] => 0
  | x :: r => uptoBulkEntry x + uptoBulkEntries r
def uptoBulkEntry {H : Type} : Lit × DataW H → Nat
  | (.string bytes, d) => bytes.length + uptoBulk d + 1
  | (_, d) => uptoBulk d + 1
 end
def uptoSmall : (H : Type) → List (DataW H) → Bool := fun _ ds => decide (uptoBulkAll ds ≤ 1048576)
def OpenSpec.upto (s : _root_.Go.ChangeSpec) : _root_.Go.OpenSpec := { _root_.Go.OpenSpec.ofChange s with cond := some uptoSmall }

/-- 'exchangepointlaw22.OriginTrusts', WHERE WHAT IT READS IS OF BULK AT MOST 1048576: true; the input reads as it did. -/
def originTrustsUptoRow : OpenClaim := { program := "ytgfoabcickjphaagreatdoor", sum := "36a55c33dbbf30e1706aebd6072c0411f76910ea9368095fd0762f864a4f440a", func := "exchangepoint/exchangepointlaw22.OriginTrusts", spec := "originTrusts", unfollowed := true, recurses := true, named := ["exchangepoint/resource.addresses", "exchangepoint/resource.numbers"], plainKeys := false, apart := false, laid := [("exchangepoint/resource.addresses", laid_exchangepoint_resource_addresses), ("exchangepoint/resource.numbers", laid_exchangepoint_resource_numbers)], narrowed := true }
def OriginTrustsUptoSaid : Prop := originTrustsUptoRow.holds Tryz.pinned (OpenSpec.upto originTrustsSpec)

/-- 'exchangepointlaw22.OriginHolders', WHERE WHAT IT READS IS OF BULK AT MOST 1048576: true; the input reads as it did. -/
def originHoldersUptoRow : OpenClaim := { program := "ytgfoabcickjphaagreatdoor", sum := "36a55c33dbbf30e1706aebd6072c0411f76910ea9368095fd0762f864a4f440a", func := "exchangepoint/exchangepointlaw22.OriginHolders", spec := "originHolders", unfollowed := true, recurses := true, named := ["exchangepoint/resource.addresses", "exchangepoint/resource.numbers"], plainKeys := false, apart := false, laid := [("exchangepoint/resource.addresses", laid_exchangepoint_resource_addresses), ("exchangepoint/resource.numbers", laid_exchangepoint_resource_numbers)], narrowed := true }
def OriginHoldersUptoSaid : Prop := originHoldersUptoRow.holds Tryz.pinned (OpenSpec.upto originHoldersSpec)

/-- 'exchangepointlaw22.OriginMore', WHERE WHAT IT READS IS OF BULK AT MOST 1048576: true; the input reads as it did. -/
def originMoreUptoRow : OpenClaim := { program := "ytgfoabcickjphaagreatdoor", sum := "36a55c33dbbf30e1706aebd6072c0411f76910ea9368095fd0762f864a4f440a", func := "exchangepoint/exchangepointlaw22.OriginMore", spec := "originMore", unfollowed := true, recurses := true, named := ["exchangepoint/resource.addresses", "exchangepoint/resource.numbers"], plainKeys := false, apart := false, laid := [("exchangepoint/resource.addresses", laid_exchangepoint_resource_addresses), ("exchangepoint/resource.numbers", laid_exchangepoint_resource_numbers)], narrowed := true }
def OriginMoreUptoSaid : Prop := originMoreUptoRow.holds Tryz.pinned (OpenSpec.upto originMoreSpec)

/-- 'exchangepointlaw22.OriginPayloads', WHERE WHAT IT READS IS OF BULK AT MOST 1048576: true; the input reads as it did. -/
def originPayloadsUptoRow : OpenClaim := { program := "ytgfoabcickjphaagreatdoor", sum := "36a55c33dbbf30e1706aebd6072c0411f76910ea9368095fd0762f864a4f440a", func := "exchangepoint/exchangepointlaw22.OriginPayloads", spec := "originPayloads", unfollowed := true, recurses := true, named := ["exchangepoint/resource.addresses", "exchangepoint/resource.numbers"], plainKeys := false, apart := false, laid := [("exchangepoint/resource.addresses", laid_exchangepoint_resource_addresses), ("exchangepoint/resource.numbers", laid_exchangepoint_resource_numbers)], narrowed := true }
def OriginPayloadsUptoSaid : Prop := originPayloadsUptoRow.holds Tryz.pinned (OpenSpec.upto originPayloadsSpec)

/-- 'exchangepointlaw22.OriginTimes', WHERE WHAT IT READS IS OF BULK AT MOST 1048576: true; the input reads as it did. -/
def originTimesUptoRow : OpenClaim := { program := "ytgfoabcickjphaagreatdoor", sum := "36a55c33dbbf30e1706aebd6072c0411f76910ea9368095fd0762f864a4f440a", func := "exchangepoint/exchangepointlaw22.OriginTimes", spec := "originTimes", unfollowed := true, recurses := true, named := ["exchangepoint/resource.addresses", "exchangepoint/resource.numbers"], plainKeys := false, apart := false, laid := [("exchangepoint/resource.addresses", laid_exchangepoint_resource_addresses), ("exchangepoint/resource.numbers", laid_exchangepoint_resource_numbers)], narrowed := true }
def OriginTimesUptoSaid : Prop := originTimesUptoRow.holds Tryz.pinned (OpenSpec.upto originTimesSpec)

end Rows
end Go.Proofs.YtgfoabcickjphaaGreatDoor

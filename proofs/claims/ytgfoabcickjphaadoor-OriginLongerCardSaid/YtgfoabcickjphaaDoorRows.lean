/-
  NARROWER THAN 'FOR EVERY INPUT', by the rows' own cells (each row's printed sentence says how): OriginChains: laid · OriginStates: laid · OriginLonger: laid.
  DERIVED. THE GIVEN ROWS OF THIS SEAT. 3 by the template 'for every input the law returns true; each argument reads behind the call as it read before'; 0 by the template 'total and deterministic' (their statements: YtgfoabcickjphaaDoorTotals.lean).
  GIVEN WITH THE SEED: the statements are not yours to turn. If you find one false, say at which input.
  Laid BY PROGRAM, IN A SANDBOX (cutbox-rows.mjs): the forced cells as the released guide's own fill.sh prints them over the translation ee3fa842f2528a32… (all of the seat's roots in one cut). By AI agents, Wed Nov 11 2026. No macro, syntax, notation, axiom, sorry.
-/
import Derived.Test.YtgfoabcickjphaaDoorChecked
import GoSem.Claim
import GoSem.ClaimJoined
import GoSem.ClaimMapViews
import Derived.JoinedTies
import Derived.KernelRfl
namespace Go.Proofs.YtgfoabcickjphaaDoor
/- THE CELL 'sum', in the pinned program and in every row, IS THE sha256 OF THE DUMP (.gsa) THAT YtgfoabcickjphaaDoorProg.lean LOADS. Nothing in Lean hashes anything: it is a label: what it is worth is what the hold of that sum in a sandbox is worth. -/
noncomputable def Tryd.pinned : Pinned := { name := "ytgfoabcickjphaadoor", sum := "ee3fa842f2528a32afaaf293411d255c67a5ebfc80684d75e7a6251451b3b4ee", checked := Tryd.checked }
namespace Rows
def none {H : Type} : Left H := { results := [], args := [] }

/- WHAT THE LISTED PACKAGE-LEVEL VARIABLES READ AS WHEN THE CALL BEGINS. Each datum BY PROGRAM (the guide's laid-datum.mjs) off the statement by which the dump's own 'gosem.cut.vars' lays the variable. In a bare row this is a premise. The card (YtgfoabcickjphaaDoorCards.lean) ties it to the program's text. -/
def laid_exchangepoint_resource_addresses {H : Type} : DataW H := .iface "func table" (.agg [.iface "func" (.lit (.string [101, 120, 99, 104, 97, 110, 103, 101, 112, 111, 105, 110, 116, 47, 97, 100, 100, 114, 46, 67, 109, 112])), .iface "func" (.lit (.string [101, 120, 99, 104, 97, 110, 103, 101, 112, 111, 105, 110, 116, 47, 97, 100, 100, 114, 46, 78, 101, 120, 116])), .iface "func" (.lit (.string [101, 120, 99, 104, 97, 110, 103, 101, 112, 111, 105, 110, 116, 47, 114, 101, 115, 111, 117, 114, 99, 101, 46, 98, 101, 102, 111, 114, 101]))])
def laid_exchangepoint_resource_numbers {H : Type} : DataW H := .iface "func table" (.agg [.iface "func" (.lit (.string [99, 109, 112, 46, 67, 111, 109, 112, 97, 114, 101, 91, 105, 110, 116, 93])), .iface "func" (.lit (.string [101, 120, 99, 104, 97, 110, 103, 101, 112, 111, 105, 110, 116, 47, 114, 101, 115, 111, 117, 114, 99, 101, 46, 110, 117, 109, 98, 101, 114, 115, 36, 49])), .iface "func" (.lit (.string [101, 120, 99, 104, 97, 110, 103, 101, 112, 111, 105, 110, 116, 47, 114, 101, 115, 111, 117, 114, 99, 101, 46, 110, 117, 109, 98, 101, 114, 115, 36, 50]))])

/-- 'exchangepointlaw22.OriginChains': WHATEVER THE INPUT: true; the input reads as it did. -/
def originChainsSpec : ChangeSpec := { name := "originChains", fn := fun _ => fun
  | [d1, d2, d3] => { results := [.lit (.bool true)], args := [d1, d2, d3] }
  | _ => none }
def originChainsRow : OpenClaim := { program := "ytgfoabcickjphaadoor", sum := "ee3fa842f2528a32afaaf293411d255c67a5ebfc80684d75e7a6251451b3b4ee", func := "exchangepoint/exchangepointlaw22.OriginChains", spec := "originChains", unfollowed := true, recurses := true, named := ["exchangepoint/resource.addresses", "exchangepoint/resource.numbers"], apart := false, laid := [("exchangepoint/resource.addresses", laid_exchangepoint_resource_addresses), ("exchangepoint/resource.numbers", laid_exchangepoint_resource_numbers)] }
def OriginChainsSaid : Prop := originChainsRow.holds Tryd.pinned (OpenSpec.ofChange originChainsSpec)

/-- ITS FALSE NEIGHBOUR: 'it returns false'. Refute it at one input. -/
def originChainsWrong : ChangeSpec := { name := "originChains", fn := fun _ => fun
  | [d1, d2, d3] => { results := [.lit (.bool false)], args := [d1, d2, d3] }
  | _ => none }
def OriginChainsWrongFalsely : Prop := originChainsRow.holds Tryd.pinned (OpenSpec.ofChange originChainsWrong)

/-- 'exchangepointlaw22.OriginStates': WHATEVER THE INPUT: true; the input reads as it did. -/
def originStatesSpec : ChangeSpec := { name := "originStates", fn := fun _ => fun
  | [d1, d2] => { results := [.lit (.bool true)], args := [d1, d2] }
  | _ => none }
def originStatesRow : OpenClaim := { program := "ytgfoabcickjphaadoor", sum := "ee3fa842f2528a32afaaf293411d255c67a5ebfc80684d75e7a6251451b3b4ee", func := "exchangepoint/exchangepointlaw22.OriginStates", spec := "originStates", unfollowed := true, recurses := true, named := ["exchangepoint/resource.addresses", "exchangepoint/resource.numbers"], apart := false, laid := [("exchangepoint/resource.addresses", laid_exchangepoint_resource_addresses), ("exchangepoint/resource.numbers", laid_exchangepoint_resource_numbers)] }
def OriginStatesSaid : Prop := originStatesRow.holds Tryd.pinned (OpenSpec.ofChange originStatesSpec)

/-- ITS FALSE NEIGHBOUR: 'it returns false'. Refute it at one input. -/
def originStatesWrong : ChangeSpec := { name := "originStates", fn := fun _ => fun
  | [d1, d2] => { results := [.lit (.bool false)], args := [d1, d2] }
  | _ => none }
def OriginStatesWrongFalsely : Prop := originStatesRow.holds Tryd.pinned (OpenSpec.ofChange originStatesWrong)

/-- 'exchangepointlaw22.OriginLonger': WHATEVER THE INPUT: true; the input reads as it did. -/
def originLongerSpec : ChangeSpec := { name := "originLonger", fn := fun _ => fun
  | [d1, d2] => { results := [.lit (.bool true)], args := [d1, d2] }
  | _ => none }
def originLongerRow : OpenClaim := { program := "ytgfoabcickjphaadoor", sum := "ee3fa842f2528a32afaaf293411d255c67a5ebfc80684d75e7a6251451b3b4ee", func := "exchangepoint/exchangepointlaw22.OriginLonger", spec := "originLonger", unfollowed := true, recurses := true, named := ["exchangepoint/resource.addresses", "exchangepoint/resource.numbers"], apart := false, laid := [("exchangepoint/resource.addresses", laid_exchangepoint_resource_addresses), ("exchangepoint/resource.numbers", laid_exchangepoint_resource_numbers)] }
def OriginLongerSaid : Prop := originLongerRow.holds Tryd.pinned (OpenSpec.ofChange originLongerSpec)

/-- ITS FALSE NEIGHBOUR: 'it returns false'. Refute it at one input. -/
def originLongerWrong : ChangeSpec := { name := "originLonger", fn := fun _ => fun
  | [d1, d2] => { results := [.lit (.bool false)], args := [d1, d2] }
  | _ => none }
def OriginLongerWrongFalsely : Prop := originLongerRow.holds Tryd.pinned (OpenSpec.ofChange originLongerWrong)

/- THE SECOND FORM. 'bulk': how many values and letters a reading holds, each counted each time it is reached (what is shared counts as often as it is met; a slice's spare places count too). A statement '..UptoSaid' is the law's where the arguments, and the package variables that the reading takes, are together of bulk at most 1048576: NARROWER than '..Said'. Prove '..Said' where nothing that the law and all that it calls make is longer than what came in: it says more and counts as full. Else prove '..UptoSaid'. A law counts once. -/
mutual
def uptoBulk {H : Type} : DataW H → Nat
  | .lit (.string bytes) => bytes.length + 1
  | .lit _ => 1
  | .nil => 1
  | .ptr d => uptoBulk d + 1
  | .slice elems spare => uptoBulkAll elems + uptoBulkAll spare + 1
  | .agg parts => uptoBulkAll parts + 1
  | .iface _ d => uptoBulk d + 1
  | .map entries => uptoBulkEntries entries + 1
  | .held _ => 1
def uptoBulkAll {H : Type} : List (DataW H) → Nat
  | [] => 0
  | d :: r => uptoBulk d + uptoBulkAll r
def uptoBulkEntries {H : Type} : List (Lit × DataW H) → Nat
  | [] => 0
  | x :: r => uptoBulkEntry x + uptoBulkEntries r
def uptoBulkEntry {H : Type} : Lit × DataW H → Nat
  | (.string bytes, d) => bytes.length + uptoBulk d + 1
  | (_, d) => uptoBulk d + 1
 end
def uptoSmall : (H : Type) → List (DataW H) → Bool := fun _ ds => decide (uptoBulkAll ds ≤ 1048576)
def OpenSpec.upto (s : _root_.Go.ChangeSpec) : _root_.Go.OpenSpec := { _root_.Go.OpenSpec.ofChange s with cond := some uptoSmall }

/-- 'exchangepointlaw22.OriginChains', WHERE WHAT IT READS IS OF BULK AT MOST 1048576: true; the input reads as it did. -/
def originChainsUptoRow : OpenClaim := { program := "ytgfoabcickjphaadoor", sum := "ee3fa842f2528a32afaaf293411d255c67a5ebfc80684d75e7a6251451b3b4ee", func := "exchangepoint/exchangepointlaw22.OriginChains", spec := "originChains", unfollowed := true, recurses := true, named := ["exchangepoint/resource.addresses", "exchangepoint/resource.numbers"], apart := false, laid := [("exchangepoint/resource.addresses", laid_exchangepoint_resource_addresses), ("exchangepoint/resource.numbers", laid_exchangepoint_resource_numbers)], narrowed := true }
def OriginChainsUptoSaid : Prop := originChainsUptoRow.holds Tryd.pinned (OpenSpec.upto originChainsSpec)

/-- 'exchangepointlaw22.OriginStates', WHERE WHAT IT READS IS OF BULK AT MOST 1048576: true; the input reads as it did. -/
def originStatesUptoRow : OpenClaim := { program := "ytgfoabcickjphaadoor", sum := "ee3fa842f2528a32afaaf293411d255c67a5ebfc80684d75e7a6251451b3b4ee", func := "exchangepoint/exchangepointlaw22.OriginStates", spec := "originStates", unfollowed := true, recurses := true, named := ["exchangepoint/resource.addresses", "exchangepoint/resource.numbers"], apart := false, laid := [("exchangepoint/resource.addresses", laid_exchangepoint_resource_addresses), ("exchangepoint/resource.numbers", laid_exchangepoint_resource_numbers)], narrowed := true }
def OriginStatesUptoSaid : Prop := originStatesUptoRow.holds Tryd.pinned (OpenSpec.upto originStatesSpec)

/-- 'exchangepointlaw22.OriginLonger', WHERE WHAT IT READS IS OF BULK AT MOST 1048576: true; the input reads as it did. -/
def originLongerUptoRow : OpenClaim := { program := "ytgfoabcickjphaadoor", sum := "ee3fa842f2528a32afaaf293411d255c67a5ebfc80684d75e7a6251451b3b4ee", func := "exchangepoint/exchangepointlaw22.OriginLonger", spec := "originLonger", unfollowed := true, recurses := true, named := ["exchangepoint/resource.addresses", "exchangepoint/resource.numbers"], apart := false, laid := [("exchangepoint/resource.addresses", laid_exchangepoint_resource_addresses), ("exchangepoint/resource.numbers", laid_exchangepoint_resource_numbers)], narrowed := true }
def OriginLongerUptoSaid : Prop := originLongerUptoRow.holds Tryd.pinned (OpenSpec.upto originLongerSpec)

end Rows
end Go.Proofs.YtgfoabcickjphaaDoor

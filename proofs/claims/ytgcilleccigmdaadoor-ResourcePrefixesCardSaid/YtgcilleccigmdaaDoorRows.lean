/-
  NARROWER THAN 'FOR EVERY INPUT', by the rows' own cells (each row's printed sentence says how): ResourceHas: laid · ResourceMakes: laid · ResourcePrefixes: laid · ResourceLaws: laid.
  DERIVED. THE GIVEN ROWS OF THIS SEAT. 4 by the template 'for every input the law returns true; each argument reads behind the call as it read before'; 0 by the template 'total and deterministic' (their statements: YtgcilleccigmdaaDoorTotals.lean).
  GIVEN WITH THE SEED: the statements are not yours to turn. If you find one false, say at which input.
  Laid BY PROGRAM, IN A SANDBOX (cutbox-rows.mjs): the forced cells as the released guide's own fill.sh prints them over the translation 9b666b6283922be4… (all of the seat's roots in one cut). By AI agents, Wed Nov 11 2026. No macro, syntax, notation, axiom, sorry.
-/
import Derived.Test.YtgcilleccigmdaaDoorChecked
import GoSem.Claim
import GoSem.ClaimJoined
import GoSem.ClaimMapViews
import Derived.JoinedTies
import Derived.KernelRfl
namespace Go.Proofs.YtgcilleccigmdaaDoor
/- THE CELL 'sum', in the pinned program and in every row, IS THE sha256 OF THE DUMP (.gsa) THAT YtgcilleccigmdaaDoorProg.lean LOADS. Nothing in Lean hashes anything: it is a label: what it is worth is what the hold of that sum in a sandbox is worth. -/
noncomputable def Tryd.pinned : Pinned := { name := "ytgcilleccigmdaadoor", sum := "9b666b6283922be45f1926897c2898b03cf02a3c34862ebde99e9e5b6aafd390", checked := Tryd.checked }
namespace Rows
def none {H : Type} : Left H := { results := [], args := [] }

/- WHAT THE LISTED PACKAGE-LEVEL VARIABLES READ AS WHEN THE CALL BEGINS. Each datum BY PROGRAM (the guide's laid-datum.mjs) off the statement by which the dump's own 'gosem.cut.vars' lays the variable. In a bare row this is a premise. The card (YtgcilleccigmdaaDoorCards.lean) ties it to the program's text. -/
def laid_exchangepoint_resource_addresses {H : Type} : DataW H := .iface "func table" (.agg [.iface "func" (.lit (.string [101, 120, 99, 104, 97, 110, 103, 101, 112, 111, 105, 110, 116, 47, 97, 100, 100, 114, 46, 67, 109, 112])), .iface "func" (.lit (.string [101, 120, 99, 104, 97, 110, 103, 101, 112, 111, 105, 110, 116, 47, 97, 100, 100, 114, 46, 78, 101, 120, 116])), .iface "func" (.lit (.string [101, 120, 99, 104, 97, 110, 103, 101, 112, 111, 105, 110, 116, 47, 114, 101, 115, 111, 117, 114, 99, 101, 46, 98, 101, 102, 111, 114, 101]))])
def laid_exchangepoint_resource_numbers {H : Type} : DataW H := .iface "func table" (.agg [.iface "func" (.lit (.string [99, 109, 112, 46, 67, 111, 109, 112, 97, 114, 101, 91, 105, 110, 116, 93])), .iface "func" (.lit (.string [101, 120, 99, 104, 97, 110, 103, 101, 112, 111, 105, 110, 116, 47, 114, 101, 115, 111, 117, 114, 99, 101, 46, 110, 117, 109, 98, 101, 114, 115, 36, 49])), .iface "func" (.lit (.string [101, 120, 99, 104, 97, 110, 103, 101, 112, 111, 105, 110, 116, 47, 114, 101, 115, 111, 117, 114, 99, 101, 46, 110, 117, 109, 98, 101, 114, 115, 36, 50]))])

/-- 'exchangepointlaw21.ResourceHas': WHATEVER THE INPUT: true; the input reads as it did. -/
def resourceHasSpec : ChangeSpec := { name := "resourceHas", fn := fun _ => fun
  | [d1, d2] => { results := [.lit (.bool true)], args := [d1, d2] }
  | _ => none }
def resourceHasRow : OpenClaim := { program := "ytgcilleccigmdaadoor", sum := "9b666b6283922be45f1926897c2898b03cf02a3c34862ebde99e9e5b6aafd390", func := "exchangepoint/exchangepointlaw21.ResourceHas", spec := "resourceHas", unfollowed := true, recurses := true, named := ["exchangepoint/resource.addresses", "exchangepoint/resource.numbers"], apart := false, laid := [("exchangepoint/resource.addresses", laid_exchangepoint_resource_addresses), ("exchangepoint/resource.numbers", laid_exchangepoint_resource_numbers)] }
def ResourceHasSaid : Prop := resourceHasRow.holds Tryd.pinned (OpenSpec.ofChange resourceHasSpec)

/-- ITS FALSE NEIGHBOUR: 'it returns false'. Refute it at one input. -/
def resourceHasWrong : ChangeSpec := { name := "resourceHas", fn := fun _ => fun
  | [d1, d2] => { results := [.lit (.bool false)], args := [d1, d2] }
  | _ => none }
def ResourceHasWrongFalsely : Prop := resourceHasRow.holds Tryd.pinned (OpenSpec.ofChange resourceHasWrong)

/-- 'exchangepointlaw21.ResourceMakes': WHATEVER THE INPUT: true; the input reads as it did. -/
def resourceMakesSpec : ChangeSpec := { name := "resourceMakes", fn := fun _ => fun
  | [d1, d2, d3, d4, d5, d6] => { results := [.lit (.bool true)], args := [d1, d2, d3, d4, d5, d6] }
  | _ => none }
def resourceMakesRow : OpenClaim := { program := "ytgcilleccigmdaadoor", sum := "9b666b6283922be45f1926897c2898b03cf02a3c34862ebde99e9e5b6aafd390", func := "exchangepoint/exchangepointlaw21.ResourceMakes", spec := "resourceMakes", unfollowed := true, recurses := true, named := ["exchangepoint/resource.addresses", "exchangepoint/resource.numbers"], apart := false, laid := [("exchangepoint/resource.addresses", laid_exchangepoint_resource_addresses), ("exchangepoint/resource.numbers", laid_exchangepoint_resource_numbers)] }
def ResourceMakesSaid : Prop := resourceMakesRow.holds Tryd.pinned (OpenSpec.ofChange resourceMakesSpec)

/-- ITS FALSE NEIGHBOUR: 'it returns false'. Refute it at one input. -/
def resourceMakesWrong : ChangeSpec := { name := "resourceMakes", fn := fun _ => fun
  | [d1, d2, d3, d4, d5, d6] => { results := [.lit (.bool false)], args := [d1, d2, d3, d4, d5, d6] }
  | _ => none }
def ResourceMakesWrongFalsely : Prop := resourceMakesRow.holds Tryd.pinned (OpenSpec.ofChange resourceMakesWrong)

/-- 'exchangepointlaw21.ResourcePrefixes': WHATEVER THE INPUT: true; the input reads as it did. -/
def resourcePrefixesSpec : ChangeSpec := { name := "resourcePrefixes", fn := fun _ => fun
  | [d] => { results := [.lit (.bool true)], args := [d] }
  | _ => none }
def resourcePrefixesRow : OpenClaim := { program := "ytgcilleccigmdaadoor", sum := "9b666b6283922be45f1926897c2898b03cf02a3c34862ebde99e9e5b6aafd390", func := "exchangepoint/exchangepointlaw21.ResourcePrefixes", spec := "resourcePrefixes", unfollowed := true, recurses := true, named := ["exchangepoint/resource.addresses", "exchangepoint/resource.numbers"], apart := false, laid := [("exchangepoint/resource.addresses", laid_exchangepoint_resource_addresses), ("exchangepoint/resource.numbers", laid_exchangepoint_resource_numbers)] }
def ResourcePrefixesSaid : Prop := resourcePrefixesRow.holds Tryd.pinned (OpenSpec.ofChange resourcePrefixesSpec)

/-- ITS FALSE NEIGHBOUR: 'it returns false'. Refute it at one input. -/
def resourcePrefixesWrong : ChangeSpec := { name := "resourcePrefixes", fn := fun _ => fun
  | [d] => { results := [.lit (.bool false)], args := [d] }
  | _ => none }
def ResourcePrefixesWrongFalsely : Prop := resourcePrefixesRow.holds Tryd.pinned (OpenSpec.ofChange resourcePrefixesWrong)

/-- 'exchangepointlaw21.ResourceLaws': WHATEVER THE INPUT: true; the input reads as it did. -/
def resourceLawsSpec : ChangeSpec := { name := "resourceLaws", fn := fun _ => fun
  | [d1, d2, d3] => { results := [.lit (.bool true)], args := [d1, d2, d3] }
  | _ => none }
def resourceLawsRow : OpenClaim := { program := "ytgcilleccigmdaadoor", sum := "9b666b6283922be45f1926897c2898b03cf02a3c34862ebde99e9e5b6aafd390", func := "exchangepoint/exchangepointlaw21.ResourceLaws", spec := "resourceLaws", unfollowed := true, recurses := true, named := ["exchangepoint/resource.addresses", "exchangepoint/resource.numbers"], apart := false, laid := [("exchangepoint/resource.addresses", laid_exchangepoint_resource_addresses), ("exchangepoint/resource.numbers", laid_exchangepoint_resource_numbers)] }
def ResourceLawsSaid : Prop := resourceLawsRow.holds Tryd.pinned (OpenSpec.ofChange resourceLawsSpec)

/-- ITS FALSE NEIGHBOUR: 'it returns false'. Refute it at one input. -/
def resourceLawsWrong : ChangeSpec := { name := "resourceLaws", fn := fun _ => fun
  | [d1, d2, d3] => { results := [.lit (.bool false)], args := [d1, d2, d3] }
  | _ => none }
def ResourceLawsWrongFalsely : Prop := resourceLawsRow.holds Tryd.pinned (OpenSpec.ofChange resourceLawsWrong)

/- THE SECOND FORM. 'bulk': how many values and letters a reading holds, each counted each time it is reached (what is shared counts as often as it is met; a slice's spare places count too). A statement '..UptoSaid' is the law's where the arguments, and the package variables that the reading takes, are together of bulk at most 1048576: NARROWER than '..Said'. Prove '..Said' where nothing that the law and all that it calls make is longer than what came in: it says more and counts as full. Else prove '..UptoSaid'. A law counts once. -/
mutual
def uptoBulk {H : Type} : DataW H → Nat
  | .lit (.string bytes) => bytes.length + 1
  | .lit _ => 1
  | .nil => 1
  | .ptr d => uptoBulk d + 1
  | .slice elems spare => uptoBulkAll elems + uptoBulkAll spare + 1
  | .agg parts => uptoBulkAll parts + 1
  | .iface _ d => uptoBulk d + 1
  | .map entries => uptoBulkEntries entries + 1
  | .held _ => 1
def uptoBulkAll {H : Type} : List (DataW H) → Nat
  | [] => 0
  | d :: r => uptoBulk d + uptoBulkAll r
def uptoBulkEntries {H : Type} : List (Lit × DataW H) → Nat
  | [] => 0
  | x :: r => uptoBulkEntry x + uptoBulkEntries r
def uptoBulkEntry {H : Type} : Lit × DataW H → Nat
  | (.string bytes, d) => bytes.length + uptoBulk d + 1
  | (_, d) => uptoBulk d + 1
 end
def uptoSmall : (H : Type) → List (DataW H) → Bool := fun _ ds => decide (uptoBulkAll ds ≤ 1048576)
def OpenSpec.upto (s : _root_.Go.ChangeSpec) : _root_.Go.OpenSpec := { _root_.Go.OpenSpec.ofChange s with cond := some uptoSmall }

/-- 'exchangepointlaw21.ResourceHas', WHERE WHAT IT READS IS OF BULK AT MOST 1048576: true; the input reads as it did. -/
def resourceHasUptoRow : OpenClaim := { program := "ytgcilleccigmdaadoor", sum := "9b666b6283922be45f1926897c2898b03cf02a3c34862ebde99e9e5b6aafd390", func := "exchangepoint/exchangepointlaw21.ResourceHas", spec := "resourceHas", unfollowed := true, recurses := true, named := ["exchangepoint/resource.addresses", "exchangepoint/resource.numbers"], apart := false, laid := [("exchangepoint/resource.addresses", laid_exchangepoint_resource_addresses), ("exchangepoint/resource.numbers", laid_exchangepoint_resource_numbers)], narrowed := true }
def ResourceHasUptoSaid : Prop := resourceHasUptoRow.holds Tryd.pinned (OpenSpec.upto resourceHasSpec)

/-- 'exchangepointlaw21.ResourceMakes', WHERE WHAT IT READS IS OF BULK AT MOST 1048576: true; the input reads as it did. -/
def resourceMakesUptoRow : OpenClaim := { program := "ytgcilleccigmdaadoor", sum := "9b666b6283922be45f1926897c2898b03cf02a3c34862ebde99e9e5b6aafd390", func := "exchangepoint/exchangepointlaw21.ResourceMakes", spec := "resourceMakes", unfollowed := true, recurses := true, named := ["exchangepoint/resource.addresses", "exchangepoint/resource.numbers"], apart := false, laid := [("exchangepoint/resource.addresses", laid_exchangepoint_resource_addresses), ("exchangepoint/resource.numbers", laid_exchangepoint_resource_numbers)], narrowed := true }
def ResourceMakesUptoSaid : Prop := resourceMakesUptoRow.holds Tryd.pinned (OpenSpec.upto resourceMakesSpec)

/-- 'exchangepointlaw21.ResourcePrefixes', WHERE WHAT IT READS IS OF BULK AT MOST 1048576: true; the input reads as it did. -/
def resourcePrefixesUptoRow : OpenClaim := { program := "ytgcilleccigmdaadoor", sum := "9b666b6283922be45f1926897c2898b03cf02a3c34862ebde99e9e5b6aafd390", func := "exchangepoint/exchangepointlaw21.ResourcePrefixes", spec := "resourcePrefixes", unfollowed := true, recurses := true, named := ["exchangepoint/resource.addresses", "exchangepoint/resource.numbers"], apart := false, laid := [("exchangepoint/resource.addresses", laid_exchangepoint_resource_addresses), ("exchangepoint/resource.numbers", laid_exchangepoint_resource_numbers)], narrowed := true }
def ResourcePrefixesUptoSaid : Prop := resourcePrefixesUptoRow.holds Tryd.pinned (OpenSpec.upto resourcePrefixesSpec)

/-- 'exchangepointlaw21.ResourceLaws', WHERE WHAT IT READS IS OF BULK AT MOST 1048576: true; the input reads as it did. -/
def resourceLawsUptoRow : OpenClaim := { program := "ytgcilleccigmdaadoor", sum := "9b666b6283922be45f1926897c2898b03cf02a3c34862ebde99e9e5b6aafd390", func := "exchangepoint/exchangepointlaw21.ResourceLaws", spec := "resourceLaws", unfollowed := true, recurses := true, named := ["exchangepoint/resource.addresses", "exchangepoint/resource.numbers"], apart := false, laid := [("exchangepoint/resource.addresses", laid_exchangepoint_resource_addresses), ("exchangepoint/resource.numbers", laid_exchangepoint_resource_numbers)], narrowed := true }
def ResourceLawsUptoSaid : Prop := resourceLawsUptoRow.holds Tryd.pinned (OpenSpec.upto resourceLawsSpec)

end Rows
end Go.Proofs.YtgcilleccigmdaaDoor

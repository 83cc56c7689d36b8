/-
  No cell of these rows narrows 'for every input' (looked for: loops, veiled, ifaces, maps, wideKeys, modest, calm, conditions, laid).
  DERIVED. THE GIVEN ROWS OF THIS SEAT. 4 by the template 'for every input the law returns true; each argument reads behind the call as it read before'; 0 by the template 'total and deterministic' (their statements: YtimcphncaffenaaTotals.lean).
  GIVEN WITH THE SEED: the statements are not yours to turn. If you find one false, say at which input.
  Laid BY PROGRAM, IN A SANDBOX (cutbox-rows.mjs): the forced cells as the released guide's own fill.sh prints them over the translation 7ef5afdef48650e7… (all of the seat's roots in one cut). By AI agents, Wed Nov 11 2026. No macro, syntax, notation, axiom, sorry.
-/
import Derived.Test.YtimcphncaffenaaChecked
import GoSem.Claim
import GoSem.ClaimJoined
import GoSem.ClaimMapViews
import Derived.JoinedTies
import Derived.KernelRfl
namespace Go.Proofs.Ytimcphncaffenaa
/- THE CELL 'sum', in the pinned program and in every row, IS THE sha256 OF THE DUMP (.gsa) THAT YtimcphncaffenaaProg.lean LOADS. Nothing in Lean hashes anything: it is a label: what it is worth is what the hold of that sum in a sandbox is worth. -/
noncomputable def Try.pinned : Pinned := { name := "ytimcphncaffenaa", sum := "7ef5afdef48650e752b69bcfc4835b3c2e44dfd4c487abe284ac2197c6db20c5", checked := Try.checked }
namespace Rows
def none {H : Type} : Left H := { results := [], args := [] }

/-- 'exchangepointlaw41.InvoiceMakes': WHATEVER THE INPUT: true; the input reads as it did. -/
def invoiceMakesSpec : ChangeSpec := { name := "invoiceMakes", fn := fun _ => fun
  | [d1, d2, d3, d4, d5, d6] => { results := [.lit (.bool true)], args := [d1, d2, d3, d4, d5, d6] }
  | _ => none }
def invoiceMakesRow : OpenClaim := { program := "ytimcphncaffenaa", sum := "7ef5afdef48650e752b69bcfc4835b3c2e44dfd4c487abe284ac2197c6db20c5", func := "exchangepoint/exchangepointlaw41.InvoiceMakes", spec := "invoiceMakes", inPlace := ["slices.overlaps[exchangepoint/api.Line]"], unfollowed := true, recurses := true, apart := false }
def InvoiceMakesSaid : Prop := invoiceMakesRow.holds Try.pinned (OpenSpec.ofChange invoiceMakesSpec)

/-- ITS FALSE NEIGHBOUR: 'it returns false'. Refute it at one input. -/
def invoiceMakesWrong : ChangeSpec := { name := "invoiceMakes", fn := fun _ => fun
  | [d1, d2, d3, d4, d5, d6] => { results := [.lit (.bool false)], args := [d1, d2, d3, d4, d5, d6] }
  | _ => none }
def InvoiceMakesWrongFalsely : Prop := invoiceMakesRow.holds Try.pinned (OpenSpec.ofChange invoiceMakesWrong)

/-- 'exchangepointlaw41.InvoicePrices': WHATEVER THE INPUT: true; the input reads as it did. -/
def invoicePricesSpec : ChangeSpec := { name := "invoicePrices", fn := fun _ => fun
  | [d1, d2] => { results := [.lit (.bool true)], args := [d1, d2] }
  | _ => none }
def invoicePricesRow : OpenClaim := { program := "ytimcphncaffenaa", sum := "7ef5afdef48650e752b69bcfc4835b3c2e44dfd4c487abe284ac2197c6db20c5", func := "exchangepoint/exchangepointlaw41.InvoicePrices", spec := "invoicePrices", inPlace := ["slices.overlaps[exchangepoint/api.Line]"], unfollowed := true, recurses := true, apart := false }
def InvoicePricesSaid : Prop := invoicePricesRow.holds Try.pinned (OpenSpec.ofChange invoicePricesSpec)

/-- ITS FALSE NEIGHBOUR: 'it returns false'. Refute it at one input. -/
def invoicePricesWrong : ChangeSpec := { name := "invoicePrices", fn := fun _ => fun
  | [d1, d2] => { results := [.lit (.bool false)], args := [d1, d2] }
  | _ => none }
def InvoicePricesWrongFalsely : Prop := invoicePricesRow.holds Try.pinned (OpenSpec.ofChange invoicePricesWrong)

/-- 'exchangepointlaw41.InvoiceCorrects': WHATEVER THE INPUT: true; the input reads as it did. -/
def invoiceCorrectsSpec : ChangeSpec := { name := "invoiceCorrects", fn := fun _ => fun
  | [d1, d2, d3, d4, d5] => { results := [.lit (.bool true)], args := [d1, d2, d3, d4, d5] }
  | _ => none }
def invoiceCorrectsRow : OpenClaim := { program := "ytimcphncaffenaa", sum := "7ef5afdef48650e752b69bcfc4835b3c2e44dfd4c487abe284ac2197c6db20c5", func := "exchangepoint/exchangepointlaw41.InvoiceCorrects", spec := "invoiceCorrects", inPlace := ["slices.overlaps[exchangepoint/api.Line]"], unfollowed := true, recurses := true, apart := false }
def InvoiceCorrectsSaid : Prop := invoiceCorrectsRow.holds Try.pinned (OpenSpec.ofChange invoiceCorrectsSpec)

/-- ITS FALSE NEIGHBOUR: 'it returns false'. Refute it at one input. -/
def invoiceCorrectsWrong : ChangeSpec := { name := "invoiceCorrects", fn := fun _ => fun
  | [d1, d2, d3, d4, d5] => { results := [.lit (.bool false)], args := [d1, d2, d3, d4, d5] }
  | _ => none }
def InvoiceCorrectsWrongFalsely : Prop := invoiceCorrectsRow.holds Try.pinned (OpenSpec.ofChange invoiceCorrectsWrong)

/-- 'exchangepointlaw41.InvoiceBalances': WHATEVER THE INPUT: true; the input reads as it did. -/
def invoiceBalancesSpec : ChangeSpec := { name := "invoiceBalances", fn := fun _ => fun
  | [d1, d2] => { results := [.lit (.bool true)], args := [d1, d2] }
  | _ => none }
def invoiceBalancesRow : OpenClaim := { program := "ytimcphncaffenaa", sum := "7ef5afdef48650e752b69bcfc4835b3c2e44dfd4c487abe284ac2197c6db20c5", func := "exchangepoint/exchangepointlaw41.InvoiceBalances", spec := "invoiceBalances", inPlace := ["slices.overlaps[exchangepoint/api.Line]"], unfollowed := true, recurses := true, apart := false }
def InvoiceBalancesSaid : Prop := invoiceBalancesRow.holds Try.pinned (OpenSpec.ofChange invoiceBalancesSpec)

/-- ITS FALSE NEIGHBOUR: 'it returns false'. Refute it at one input. -/
def invoiceBalancesWrong : ChangeSpec := { name := "invoiceBalances", fn := fun _ => fun
  | [d1, d2] => { results := [.lit (.bool false)], args := [d1, d2] }
  | _ => none }
def InvoiceBalancesWrongFalsely : Prop := invoiceBalancesRow.holds Try.pinned (OpenSpec.ofChange invoiceBalancesWrong)

/- THE SECOND FORM. 'bulk': how many values and letters a reading holds, each counted each time it is reached (what is shared counts as often as it is met; a slice's spare places count too). A statement '..UptoSaid' is the law's where the arguments, and the package variables that the reading takes, are together of bulk at most 1048576: NARROWER than '..Said'. Prove '..Said' where nothing that the law and all that it calls make is longer than what came in: it says more and counts as full. Else prove '..UptoSaid'. A law counts once. -/
mutual
def uptoBulk {H : Type} : DataW H → Nat
  | .lit (.string bytes) => bytes.length + 1
  | .lit _ => 1
  | .nil => 1
  | .ptr d => uptoBulk d + 1
  | .slice elems spare => uptoBulkAll elems + uptoBulkAll spare + 1
  | .agg parts => uptoBulkAll parts + 1
  | .iface _ d => uptoBulk d + 1
  | .map entries => uptoBulkEntries entries + 1
  | .held _ => 1
def uptoBulkAll {H : Type} : List (DataW H) → Nat
  | [] => 0
  | d :: r => uptoBulk d + uptoBulkAll r
def uptoBulkEntries {H : Type} : List (Lit × DataW H) → Nat
  | [] => 0
  | x :: r => uptoBulkEntry x + uptoBulkEntries r
def uptoBulkEntry {H : Type} : Lit × DataW H → Nat
  | (.string bytes, d) => bytes.length + uptoBulk d + 1
  | (_, d) => uptoBulk d + 1
 end
def uptoSmall : (H : Type) → List (DataW H) → Bool := fun _ ds => decide (uptoBulkAll ds ≤ 1048576)
def OpenSpec.upto (s : _root_.Go.ChangeSpec) : _root_.Go.OpenSpec := { _root_.Go.OpenSpec.ofChange s with cond := some uptoSmall }

/-- 'exchangepointlaw41.InvoiceMakes', WHERE WHAT IT READS IS OF BULK AT MOST 1048576: true; the input reads as it did. -/
def invoiceMakesUptoRow : OpenClaim := { program := "ytimcphncaffenaa", sum := "7ef5afdef48650e752b69bcfc4835b3c2e44dfd4c487abe284ac2197c6db20c5", func := "exchangepoint/exchangepointlaw41.InvoiceMakes", spec := "invoiceMakes", inPlace := ["slices.overlaps[exchangepoint/api.Line]"], unfollowed := true, recurses := true, apart := false, narrowed := true }
def InvoiceMakesUptoSaid : Prop := invoiceMakesUptoRow.holds Try.pinned (OpenSpec.upto invoiceMakesSpec)

/-- 'exchangepointlaw41.InvoicePrices', WHERE WHAT IT READS IS OF BULK AT MOST 1048576: true; the input reads as it did. -/
def invoicePricesUptoRow : OpenClaim := { program := "ytimcphncaffenaa", sum := "7ef5afdef48650e752b69bcfc4835b3c2e44dfd4c487abe284ac2197c6db20c5", func := "exchangepoint/exchangepointlaw41.InvoicePrices", spec := "invoicePrices", inPlace := ["slices.overlaps[exchangepoint/api.Line]"], unfollowed := true, recurses := true, apart := false, narrowed := true }
def InvoicePricesUptoSaid : Prop := invoicePricesUptoRow.holds Try.pinned (OpenSpec.upto invoicePricesSpec)

/-- 'exchangepointlaw41.InvoiceCorrects', WHERE WHAT IT READS IS OF BULK AT MOST 1048576: true; the input reads as it did. -/
def invoiceCorrectsUptoRow : OpenClaim := { program := "ytimcphncaffenaa", sum := "7ef5afdef48650e752b69bcfc4835b3c2e44dfd4c487abe284ac2197c6db20c5", func := "exchangepoint/exchangepointlaw41.InvoiceCorrects", spec := "invoiceCorrects", inPlace := ["slices.overlaps[exchangepoint/api.Line]"], unfollowed := true, recurses := true, apart := false, narrowed := true }
def InvoiceCorrectsUptoSaid : Prop := invoiceCorrectsUptoRow.holds Try.pinned (OpenSpec.upto invoiceCorrectsSpec)

/-- 'exchangepointlaw41.InvoiceBalances', WHERE WHAT IT READS IS OF BULK AT MOST 1048576: true; the input reads as it did. -/
def invoiceBalancesUptoRow : OpenClaim := { program := "ytimcphncaffenaa", sum := "7ef5afdef48650e752b69bcfc4835b3c2e44dfd4c487abe284ac2197c6db20c5", func := "exchangepoint/exchangepointlaw41.InvoiceBalances", spec := "invoiceBalances", inPlace := ["slices.overlaps[exchangepoint/api.Line]"], unfollowed := true, recurses := true, apart := false, narrowed := true }
def InvoiceBalancesUptoSaid : Prop := invoiceBalancesUptoRow.holds Try.pinned (OpenSpec.upto invoiceBalancesSpec)

end Rows
end Go.Proofs.Ytimcphncaffenaa

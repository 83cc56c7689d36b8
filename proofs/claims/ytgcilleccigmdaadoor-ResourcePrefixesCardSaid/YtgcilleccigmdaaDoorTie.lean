/-
  DERIVED. GIVEN WITH THE SEED: THE PROGRAM's TIES (one call each: nine closed facts by the kernel) AND EACH ROW's TIE, after the 31st guide's Derived/Test/Toyas{Tie, Card}.lean. No idea stands in it: it is a product of the set-up. Laid BY PROGRAM, IN A SANDBOX (cutbox-door.mjs). By AI agents, Wed Nov 11 2026. No macro, syntax, notation, axiom, sorry.
-/
import Derived.Test.YtgcilleccigmdaaDoorRows
import Derived.LaidByTextLater
import Derived.SevenTiedAt
import Derived.LaidSub
import Derived.LaidOnce
namespace Go.Proofs.YtgcilleccigmdaaDoor
open Go
set_option maxRecDepth 100000
theorem seatTie1 : Tryd.prog.laidByTextLater [("exchangepoint/resource.addresses", Rows.laid_exchangepoint_resource_addresses), ("exchangepoint/resource.numbers", Rows.laid_exchangepoint_resource_numbers)] [.funcs, .funcs] true :=
  Program.laidByTextLater_by_one 19 8 2 (by kernel_rfl) (by kernel_rfl) (by kernel_rfl) (by kernel_rfl) (by kernel_rfl) (by kernel_rfl) (fun _ _ => by kernel_rfl)
theorem noOwnUnsafe : Tryd.pinned.checked.prog.headLifts.contains "ownunsafe" = false := by kernel_rfl
theorem tie : Tryd.prog.laidByTextLater [("exchangepoint/resource.addresses", Rows.laid_exchangepoint_resource_addresses), ("exchangepoint/resource.numbers", Rows.laid_exchangepoint_resource_numbers)] [.funcs, .funcs] true :=
  Program.laidByTextLater.sub seatTie1 ["exchangepoint/resource.addresses", "exchangepoint/resource.numbers"] (by kernel_rfl) (by kernel_rfl)
theorem resourceHas_row_tie : Rows.resourceHasRow.laidByTextAt .later Tryd.pinned [.funcs, .funcs] true :=
  OpenClaim.laidByTextAt_later rfl rfl tie noOwnUnsafe
theorem resourceMakes_row_tie : Rows.resourceMakesRow.laidByTextAt .later Tryd.pinned [.funcs, .funcs] true :=
  OpenClaim.laidByTextAt_later rfl rfl tie noOwnUnsafe
theorem resourcePrefixes_row_tie : Rows.resourcePrefixesRow.laidByTextAt .later Tryd.pinned [.funcs, .funcs] true :=
  OpenClaim.laidByTextAt_later rfl rfl tie noOwnUnsafe
theorem resourceLaws_row_tie : Rows.resourceLawsRow.laidByTextAt .later Tryd.pinned [.funcs, .funcs] true :=
  OpenClaim.laidByTextAt_later rfl rfl tie noOwnUnsafe
theorem resourceHasUpto_row_tie : Rows.resourceHasUptoRow.laidByTextAt .later Tryd.pinned [.funcs, .funcs] true :=
  OpenClaim.laidByTextAt_later rfl rfl tie noOwnUnsafe
theorem resourceMakesUpto_row_tie : Rows.resourceMakesUptoRow.laidByTextAt .later Tryd.pinned [.funcs, .funcs] true :=
  OpenClaim.laidByTextAt_later rfl rfl tie noOwnUnsafe
theorem resourcePrefixesUpto_row_tie : Rows.resourcePrefixesUptoRow.laidByTextAt .later Tryd.pinned [.funcs, .funcs] true :=
  OpenClaim.laidByTextAt_later rfl rfl tie noOwnUnsafe
theorem resourceLawsUpto_row_tie : Rows.resourceLawsUptoRow.laidByTextAt .later Tryd.pinned [.funcs, .funcs] true :=
  OpenClaim.laidByTextAt_later rfl rfl tie noOwnUnsafe
end Go.Proofs.YtgcilleccigmdaaDoor

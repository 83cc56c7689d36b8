/-
  DERIVED. GIVEN WITH THE SEED: THE PROGRAM's TIES (one call each: nine closed facts by the kernel) AND EACH ROW's TIE, after the 31st guide's Derived/Test/Toyas{Tie, Card}.lean. No idea stands in it: it is a product of the set-up. Laid BY PROGRAM, IN A SANDBOX (cutbox-door.mjs). By AI agents, Wed Nov 11 2026. No macro, syntax, notation, axiom, sorry.
-/
import Derived.Test.YtgfoabcickjphaaGreatDoorRows
import Derived.LaidByTextLater
import Derived.SevenTiedAt
import Derived.LaidSub
import Derived.LaidOnce
namespace Go.Proofs.YtgfoabcickjphaaGreatDoor
open Go
set_option maxRecDepth 100000
theorem seatTie1 : Tryz.prog.laidByTextLater [("exchangepoint/resource.addresses", Rows.laid_exchangepoint_resource_addresses), ("exchangepoint/resource.numbers", Rows.laid_exchangepoint_resource_numbers)] [.funcs, .funcs] true :=
  Program.laidByTextLater_by_one 19 8 2 (by kernel_rfl) (by kernel_rfl) (by kernel_rfl) (by kernel_rfl) (by kernel_rfl) (by kernel_rfl) (fun _ _ => by kernel_rfl)
theorem noOwnUnsafe : Tryz.pinned.checked.prog.headLifts.contains "ownunsafe" = false := by kernel_rfl
theorem tie : Tryz.prog.laidByTextLater [("exchangepoint/resource.addresses", Rows.laid_exchangepoint_resource_addresses), ("exchangepoint/resource.numbers", Rows.laid_exchangepoint_resource_numbers)] [.funcs, .funcs] true :=
  Program.laidByTextLater.sub seatTie1 ["exchangepoint/resource.addresses", "exchangepoint/resource.numbers"] (by kernel_rfl) (by kernel_rfl)
theorem originTrusts_row_tie : Rows.originTrustsRow.laidByTextAt .later Tryz.pinned [.funcs, .funcs] true :=
  OpenClaim.laidByTextAt_later rfl rfl tie noOwnUnsafe
theorem originHolders_row_tie : Rows.originHoldersRow.laidByTextAt .later Tryz.pinned [.funcs, .funcs] true :=
  OpenClaim.laidByTextAt_later rfl rfl tie noOwnUnsafe
theorem originMore_row_tie : Rows.originMoreRow.laidByTextAt .later Tryz.pinned [.funcs, .funcs] true :=
  OpenClaim.laidByTextAt_later rfl rfl tie noOwnUnsafe
theorem originPayloads_row_tie : Rows.originPayloadsRow.laidByTextAt .later Tryz.pinned [.funcs, .funcs] true :=
  OpenClaim.laidByTextAt_later rfl rfl tie noOwnUnsafe
theorem originTimes_row_tie : Rows.originTimesRow.laidByTextAt .later Tryz.pinned [.funcs, .funcs] true :=
  OpenClaim.laidByTextAt_later rfl rfl tie noOwnUnsafe
theorem originTrustsUpto_row_tie : Rows.originTrustsUptoRow.laidByTextAt .later Tryz.pinned [.funcs, .funcs] true :=
  OpenClaim.laidByTextAt_later rfl rfl tie noOwnUnsafe
theorem originHoldersUpto_row_tie : Rows.originHoldersUptoRow.laidByTextAt .later Tryz.pinned [.funcs, .funcs] true :=
  OpenClaim.laidByTextAt_later rfl rfl tie noOwnUnsafe
theorem originMoreUpto_row_tie : Rows.originMoreUptoRow.laidByTextAt .later Tryz.pinned [.funcs, .funcs] true :=
  OpenClaim.laidByTextAt_later rfl rfl tie noOwnUnsafe
theorem originPayloadsUpto_row_tie : Rows.originPayloadsUptoRow.laidByTextAt .later Tryz.pinned [.funcs, .funcs] true :=
  OpenClaim.laidByTextAt_later rfl rfl tie noOwnUnsafe
theorem originTimesUpto_row_tie : Rows.originTimesUptoRow.laidByTextAt .later Tryz.pinned [.funcs, .funcs] true :=
  OpenClaim.laidByTextAt_later rfl rfl tie noOwnUnsafe
end Go.Proofs.YtgfoabcickjphaaGreatDoor

/-
  DERIVED. GIVEN WITH THE SEED: THE CARDS: each row of YtgfoabcickjphaaGreatDoorRows.lean that lists a variable, with what it lists TIED to the program's text (the seventh form; the later family's looks); each row that meets fmt, with fmt's text TOLD by the authors' own Lean function (tested against real Go, not proved from fmt's source: count such statements apart). THE CARD IS WHAT COUNTS. Prove the row's statement (the work); the ties are given (YtgfoabcickjphaaGreatDoorTie.lean); close each card by the builder's one call (the guide's Derived/Test/ToyasCard.lean, 'card_holds'). Laid BY PROGRAM, IN A SANDBOX (cutbox-door.mjs). By AI agents, Wed Nov 11 2026. No macro, syntax, notation, axiom, sorry.
-/
import Derived.Test.YtgfoabcickjphaaGreatDoorRows
import GoSem.ClaimSeven
namespace Go.Proofs.YtgfoabcickjphaaGreatDoor
namespace Rows

/-- THE TIED CARD OF 'exchangepointlaw22.OriginTrusts'. -/
def originTrustsCard : Claim7 := { stood := { row := originTrustsRow, standIns := [], harness := (true, "e8d0a760e142add5aec0e9a118357c2d98901f0667e91027e31a17c75215362b"), looks := false }, kinds := [], alts := [], laidByText := true, laidKinds := [.funcs, .funcs], laidTests := true, laidLooks := .later }
def OriginTrustsCardSaid : Prop := Claim7.holds Tryz.pinned (.plain (OpenSpec.ofChange originTrustsSpec)) originTrustsCard

/-- THE TIED CARD OF 'exchangepointlaw22.OriginHolders'. -/
def originHoldersCard : Claim7 := { stood := { row := originHoldersRow, standIns := [], harness := (true, "e8d0a760e142add5aec0e9a118357c2d98901f0667e91027e31a17c75215362b"), looks := false }, kinds := [], alts := [], laidByText := true, laidKinds := [.funcs, .funcs], laidTests := true, laidLooks := .later }
def OriginHoldersCardSaid : Prop := Claim7.holds Tryz.pinned (.plain (OpenSpec.ofChange originHoldersSpec)) originHoldersCard

/-- THE TIED CARD OF 'exchangepointlaw22.OriginMore'. -/
def originMoreCard : Claim7 := { stood := { row := originMoreRow, standIns := [], harness := (true, "e8d0a760e142add5aec0e9a118357c2d98901f0667e91027e31a17c75215362b"), looks := false }, kinds := [], alts := [], laidByText := true, laidKinds := [.funcs, .funcs], laidTests := true, laidLooks := .later }
def OriginMoreCardSaid : Prop := Claim7.holds Tryz.pinned (.plain (OpenSpec.ofChange originMoreSpec)) originMoreCard

/-- THE TIED CARD OF 'exchangepointlaw22.OriginPayloads'. -/
def originPayloadsCard : Claim7 := { stood := { row := originPayloadsRow, standIns := [], harness := (true, "e8d0a760e142add5aec0e9a118357c2d98901f0667e91027e31a17c75215362b"), looks := false }, kinds := [], alts := [], laidByText := true, laidKinds := [.funcs, .funcs], laidTests := true, laidLooks := .later }
def OriginPayloadsCardSaid : Prop := Claim7.holds Tryz.pinned (.plain (OpenSpec.ofChange originPayloadsSpec)) originPayloadsCard

/-- THE TIED CARD OF 'exchangepointlaw22.OriginTimes'. -/
def originTimesCard : Claim7 := { stood := { row := originTimesRow, standIns := [], harness := (true, "e8d0a760e142add5aec0e9a118357c2d98901f0667e91027e31a17c75215362b"), looks := false }, kinds := [], alts := [], laidByText := true, laidKinds := [.funcs, .funcs], laidTests := true, laidLooks := .later }
def OriginTimesCardSaid : Prop := Claim7.holds Tryz.pinned (.plain (OpenSpec.ofChange originTimesSpec)) originTimesCard

/-- THE SECOND FORM's CARD OF 'exchangepointlaw22.OriginTrusts'. -/
def originTrustsUptoCard : Claim7 := { stood := { row := originTrustsUptoRow, standIns := [], harness := (true, "e8d0a760e142add5aec0e9a118357c2d98901f0667e91027e31a17c75215362b"), looks := false }, kinds := [], alts := [], laidByText := true, laidKinds := [.funcs, .funcs], laidTests := true, laidLooks := .later }
def OriginTrustsUptoCardSaid : Prop := Claim7.holds Tryz.pinned (.plain (OpenSpec.upto originTrustsSpec)) originTrustsUptoCard

/-- THE SECOND FORM's CARD OF 'exchangepointlaw22.OriginHolders'. -/
def originHoldersUptoCard : Claim7 := { stood := { row := originHoldersUptoRow, standIns := [], harness := (true, "e8d0a760e142add5aec0e9a118357c2d98901f0667e91027e31a17c75215362b"), looks := false }, kinds := [], alts := [], laidByText := true, laidKinds := [.funcs, .funcs], laidTests := true, laidLooks := .later }
def OriginHoldersUptoCardSaid : Prop := Claim7.holds Tryz.pinned (.plain (OpenSpec.upto originHoldersSpec)) originHoldersUptoCard

/-- THE SECOND FORM's CARD OF 'exchangepointlaw22.OriginMore'. -/
def originMoreUptoCard : Claim7 := { stood := { row := originMoreUptoRow, standIns := [], harness := (true, "e8d0a760e142add5aec0e9a118357c2d98901f0667e91027e31a17c75215362b"), looks := false }, kinds := [], alts := [], laidByText := true, laidKinds := [.funcs, .funcs], laidTests := true, laidLooks := .later }
def OriginMoreUptoCardSaid : Prop := Claim7.holds Tryz.pinned (.plain (OpenSpec.upto originMoreSpec)) originMoreUptoCard

/-- THE SECOND FORM's CARD OF 'exchangepointlaw22.OriginPayloads'. -/
def originPayloadsUptoCard : Claim7 := { stood := { row := originPayloadsUptoRow, standIns := [], harness := (true, "e8d0a760e142add5aec0e9a118357c2d98901f0667e91027e31a17c75215362b"), looks := false }, kinds := [], alts := [], laidByText := true, laidKinds := [.funcs, .funcs], laidTests := true, laidLooks := .later }
def OriginPayloadsUptoCardSaid : Prop := Claim7.holds Tryz.pinned (.plain (OpenSpec.upto originPayloadsSpec)) originPayloadsUptoCard

/-- THE SECOND FORM's CARD OF 'exchangepointlaw22.OriginTimes'. -/
def originTimesUptoCard : Claim7 := { stood := { row := originTimesUptoRow, standIns := [], harness := (true, "e8d0a760e142add5aec0e9a118357c2d98901f0667e91027e31a17c75215362b"), looks := false }, kinds := [], alts := [], laidByText := true, laidKinds := [.funcs, .funcs], laidTests := true, laidLooks := .later }
def OriginTimesUptoCardSaid : Prop := Claim7.holds Tryz.pinned (.plain (OpenSpec.upto originTimesSpec)) originTimesUptoCard
end Rows
end Go.Proofs.YtgfoabcickjphaaGreatDoor

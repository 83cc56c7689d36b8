/-
  DERIVED. GIVEN WITH THE SEED: THE CARDS: each row of YtkhjkjojjdkidaaGreatDoorRows.lean that lists a variable, with what it lists TIED to the program's text (the seventh form; the later family's looks); each row that meets fmt, with fmt's text TOLD by the authors' own Lean function (tested against real Go, not proved from fmt's source: count such statements apart). THE CARD IS WHAT COUNTS. Prove the row's statement (the work); the ties are given (YtkhjkjojjdkidaaGreatDoorTie.lean); close each card by the builder's one call (the guide's Derived/Test/ToyasCard.lean, 'card_holds'). Laid BY PROGRAM, IN A SANDBOX (cutbox-door.mjs). By AI agents, Wed Nov 11 2026. No macro, syntax, notation, axiom, sorry.
-/
import Derived.Test.YtkhjkjojjdkidaaGreatDoorRows
import GoSem.ClaimSeven
namespace Go.Proofs.YtkhjkjojjdkidaaGreatDoor
namespace Rows

/-- THE TIED CARD OF 'exchangepointlaw30.PackMessages'. -/
def packMessagesCard : Claim7 := { stood := { row := packMessagesRow, standIns := [], harness := (true, "6cfef4e9f0547fe6924e1048c1267e0f525b8f2e42a2441f3e2f715082584cd1"), looks := false }, kinds := [], alts := [], laidByText := true, laidKinds := [.mapped], laidTests := true, laidLooks := .later }
def PackMessagesCardSaid : Prop := Claim7.holds Tryz.pinned (.plain (OpenSpec.ofChange packMessagesSpec)) packMessagesCard

/-- THE TIED CARD OF 'exchangepointlaw30.PackLong'. -/
def packLongCard : Claim7 := { stood := { row := packLongRow, standIns := [], harness := (true, "6cfef4e9f0547fe6924e1048c1267e0f525b8f2e42a2441f3e2f715082584cd1"), looks := false }, kinds := [], alts := [], laidByText := true, laidKinds := [.mapped], laidTests := true, laidLooks := .later }
def PackLongCardSaid : Prop := Claim7.holds Tryz.pinned (.plain (OpenSpec.ofChange packLongSpec)) packLongCard

/-- THE TIED CARD OF 'exchangepointlaw30.PackBack'. -/
def packBackCard : Claim7 := { stood := { row := packBackRow, standIns := [], harness := (true, "6cfef4e9f0547fe6924e1048c1267e0f525b8f2e42a2441f3e2f715082584cd1"), looks := false }, kinds := [], alts := [], laidByText := true, laidKinds := [.mapped], laidTests := true, laidLooks := .later }
def PackBackCardSaid : Prop := Claim7.holds Tryz.pinned (.plain (OpenSpec.ofChange packBackSpec)) packBackCard

/-- THE TIED CARD OF 'exchangepointlaw30.PackFull'. -/
def packFullCard : Claim7 := { stood := { row := packFullRow, standIns := [], harness := (true, "6cfef4e9f0547fe6924e1048c1267e0f525b8f2e42a2441f3e2f715082584cd1"), looks := false }, kinds := [], alts := [], laidByText := true, laidKinds := [.mapped], laidTests := true, laidLooks := .later }
def PackFullCardSaid : Prop := Claim7.holds Tryz.pinned (.plain (OpenSpec.ofChange packFullSpec)) packFullCard

/-- THE SECOND FORM's CARD OF 'exchangepointlaw30.PackMessages'. -/
def packMessagesUptoCard : Claim7 := { stood := { row := packMessagesUptoRow, standIns := [], harness := (true, "6cfef4e9f0547fe6924e1048c1267e0f525b8f2e42a2441f3e2f715082584cd1"), looks := false }, kinds := [], alts := [], laidByText := true, laidKinds := [.mapped], laidTests := true, laidLooks := .later }
def PackMessagesUptoCardSaid : Prop := Claim7.holds Tryz.pinned (.plain (OpenSpec.upto packMessagesSpec)) packMessagesUptoCard

/-- THE SECOND FORM's CARD OF 'exchangepointlaw30.PackLong'. -/
def packLongUptoCard : Claim7 := { stood := { row := packLongUptoRow, standIns := [], harness := (true, "6cfef4e9f0547fe6924e1048c1267e0f525b8f2e42a2441f3e2f715082584cd1"), looks := false }, kinds := [], alts := [], laidByText := true, laidKinds := [.mapped], laidTests := true, laidLooks := .later }
def PackLongUptoCardSaid : Prop := Claim7.holds Tryz.pinned (.plain (OpenSpec.upto packLongSpec)) packLongUptoCard

/-- THE SECOND FORM's CARD OF 'exchangepointlaw30.PackBack'. -/
def packBackUptoCard : Claim7 := { stood := { row := packBackUptoRow, standIns := [], harness := (true, "6cfef4e9f0547fe6924e1048c1267e0f525b8f2e42a2441f3e2f715082584cd1"), looks := false }, kinds := [], alts := [], laidByText := true, laidKinds := [.mapped], laidTests := true, laidLooks := .later }
def PackBackUptoCardSaid : Prop := Claim7.holds Tryz.pinned (.plain (OpenSpec.upto packBackSpec)) packBackUptoCard

/-- THE SECOND FORM's CARD OF 'exchangepointlaw30.PackFull'. -/
def packFullUptoCard : Claim7 := { stood := { row := packFullUptoRow, standIns := [], harness := (true, "6cfef4e9f0547fe6924e1048c1267e0f525b8f2e42a2441f3e2f715082584cd1"), looks := false }, kinds := [], alts := [], laidByText := true, laidKinds := [.mapped], laidTests := true, laidLooks := .later }
def PackFullUptoCardSaid : Prop := Claim7.holds Tryz.pinned (.plain (OpenSpec.upto packFullSpec)) packFullUptoCard
end Rows
end Go.Proofs.YtkhjkjojjdkidaaGreatDoor

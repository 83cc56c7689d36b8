/-
  DERIVED. GIVEN WITH THE SEED: THE CARDS: each row of YtgcilleccigmdaaGreatDoorRows.lean that lists a variable, with what it lists TIED to the program's text (the seventh form; the later family's looks); each row that meets fmt, with fmt's text TOLD by the authors' own Lean function (tested against real Go, not proved from fmt's source: count such statements apart). THE CARD IS WHAT COUNTS. Prove the row's statement (the work); the ties are given (YtgcilleccigmdaaGreatDoorTie.lean); close each card by the builder's one call (the guide's Derived/Test/ToyasCard.lean, 'card_holds'). Laid BY PROGRAM, IN A SANDBOX (cutbox-door.mjs). By AI agents, Wed Nov 11 2026. No macro, syntax, notation, axiom, sorry.
-/
import Derived.Test.YtgcilleccigmdaaGreatDoorRows
import GoSem.ClaimSeven
namespace Go.Proofs.YtgcilleccigmdaaGreatDoor
namespace Rows

/-- THE TIED CARD OF 'exchangepointlaw21.ResourceJoins'. -/
def resourceJoinsCard : Claim7 := { stood := { row := resourceJoinsRow, standIns := [], harness := (true, "6e80db2c9731166754fd760080ed949bd1e9294c8847a03dae4cad219a771026"), looks := false }, kinds := [], alts := [], laidByText := true, laidKinds := [.funcs, .funcs], laidTests := true, laidLooks := .later }
def ResourceJoinsCardSaid : Prop := Claim7.holds Tryz.pinned (.plain (OpenSpec.ofChange resourceJoinsSpec)) resourceJoinsCard

/-- THE TIED CARD OF 'exchangepointlaw21.ResourceSets'. -/
def resourceSetsCard : Claim7 := { stood := { row := resourceSetsRow, standIns := [], harness := (true, "6e80db2c9731166754fd760080ed949bd1e9294c8847a03dae4cad219a771026"), looks := false }, kinds := [], alts := [], laidByText := true, laidKinds := [.funcs, .funcs], laidTests := true, laidLooks := .later }
def ResourceSetsCardSaid : Prop := Claim7.holds Tryz.pinned (.plain (OpenSpec.ofChange resourceSetsSpec)) resourceSetsCard

/-- THE SECOND FORM's CARD OF 'exchangepointlaw21.ResourceJoins'. -/
def resourceJoinsUptoCard : Claim7 := { stood := { row := resourceJoinsUptoRow, standIns := [], harness := (true, "6e80db2c9731166754fd760080ed949bd1e9294c8847a03dae4cad219a771026"), looks := false }, kinds := [], alts := [], laidByText := true, laidKinds := [.funcs, .funcs], laidTests := true, laidLooks := .later }
def ResourceJoinsUptoCardSaid : Prop := Claim7.holds Tryz.pinned (.plain (OpenSpec.upto resourceJoinsSpec)) resourceJoinsUptoCard

/-- THE SECOND FORM's CARD OF 'exchangepointlaw21.ResourceSets'. -/
def resourceSetsUptoCard : Claim7 := { stood := { row := resourceSetsUptoRow, standIns := [], harness := (true, "6e80db2c9731166754fd760080ed949bd1e9294c8847a03dae4cad219a771026"), looks := false }, kinds := [], alts := [], laidByText := true, laidKinds := [.funcs, .funcs], laidTests := true, laidLooks := .later }
def ResourceSetsUptoCardSaid : Prop := Claim7.holds Tryz.pinned (.plain (OpenSpec.upto resourceSetsSpec)) resourceSetsUptoCard
end Rows
end Go.Proofs.YtgcilleccigmdaaGreatDoor

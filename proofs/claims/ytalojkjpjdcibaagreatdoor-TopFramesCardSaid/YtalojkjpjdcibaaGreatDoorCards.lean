/-
  DERIVED. GIVEN WITH THE SEED: THE CARDS: each row of YtalojkjpjdcibaaGreatDoorRows.lean that lists a variable, with what it lists TIED to the program's text (the seventh form; the later family's looks); each row that meets fmt, with fmt's text TOLD by the authors' own Lean function (tested against real Go, not proved from fmt's source: count such statements apart). THE CARD IS WHAT COUNTS. Prove the row's statement (the work); the ties are given (YtalojkjpjdcibaaGreatDoorTie.lean); close each card by the builder's one call (the guide's Derived/Test/ToyasCard.lean, 'card_holds'). Laid BY PROGRAM, IN A SANDBOX (cutbox-door.mjs). By AI agents, Wed Nov 11 2026. No macro, syntax, notation, axiom, sorry.
-/
import Derived.Test.YtalojkjpjdcibaaGreatDoorRows
import GoSem.ClaimSeven
namespace Go.Proofs.YtalojkjpjdcibaaGreatDoor
namespace Rows

/-- THE TIED CARD OF 'exchangepointtop.TopImpersonates'. -/
def topImpersonatesCard : Claim7 := { stood := { row := topImpersonatesRow, standIns := [], harness := (true, "4ef03a62461c2e49a41ce8ac48712684f76bb9c538884c6f83f44cabcd4c4d2e"), looks := true }, kinds := [], alts := [], laidByText := true, laidKinds := [.data, .data, .data, .data, .sentinel, .sentinel, .widerDeep, .pinned], laidTests := true, laidLooks := .later }
def TopImpersonatesCardSaid : Prop := Claim7.holds Tryz.pinned (.plain (OpenSpec.ofChange topImpersonatesSpec)) topImpersonatesCard

/-- THE TIED CARD OF 'exchangepointtop.TopResolves'. -/
def topResolvesCard : Claim7 := { stood := { row := topResolvesRow, standIns := [], harness := (true, "4ef03a62461c2e49a41ce8ac48712684f76bb9c538884c6f83f44cabcd4c4d2e"), looks := true }, kinds := [], alts := [], laidByText := true, laidKinds := [.data, .data, .data, .data, .sentinel, .sentinel, .widerDeep, .pinned], laidTests := true, laidLooks := .later }
def TopResolvesCardSaid : Prop := Claim7.holds Tryz.pinned (.plain (OpenSpec.ofChange topResolvesSpec)) topResolvesCard

/-- THE TIED CARD OF 'exchangepointtop.TopFrames'. -/
def topFramesCard : Claim7 := { stood := { row := topFramesRow, standIns := [], harness := (true, "4ef03a62461c2e49a41ce8ac48712684f76bb9c538884c6f83f44cabcd4c4d2e"), looks := true }, kinds := [], alts := [], laidByText := true, laidKinds := [.data, .data, .data, .data, .sentinel, .sentinel, .widerDeep, .pinned], laidTests := true, laidLooks := .later }
def TopFramesCardSaid : Prop := Claim7.holds Tryz.pinned (.plain (OpenSpec.ofChange topFramesSpec)) topFramesCard

/-- THE SECOND FORM's CARD OF 'exchangepointtop.TopImpersonates'. -/
def topImpersonatesUptoCard : Claim7 := { stood := { row := topImpersonatesUptoRow, standIns := [], harness := (true, "4ef03a62461c2e49a41ce8ac48712684f76bb9c538884c6f83f44cabcd4c4d2e"), looks := true }, kinds := [], alts := [], laidByText := true, laidKinds := [.data, .data, .data, .data, .sentinel, .sentinel, .widerDeep, .pinned], laidTests := true, laidLooks := .later }
def TopImpersonatesUptoCardSaid : Prop := Claim7.holds Tryz.pinned (.plain (OpenSpec.upto topImpersonatesSpec)) topImpersonatesUptoCard

/-- THE SECOND FORM's CARD OF 'exchangepointtop.TopResolves'. -/
def topResolvesUptoCard : Claim7 := { stood := { row := topResolvesUptoRow, standIns := [], harness := (true, "4ef03a62461c2e49a41ce8ac48712684f76bb9c538884c6f83f44cabcd4c4d2e"), looks := true }, kinds := [], alts := [], laidByText := true, laidKinds := [.data, .data, .data, .data, .sentinel, .sentinel, .widerDeep, .pinned], laidTests := true, laidLooks := .later }
def TopResolvesUptoCardSaid : Prop := Claim7.holds Tryz.pinned (.plain (OpenSpec.upto topResolvesSpec)) topResolvesUptoCard

/-- THE SECOND FORM's CARD OF 'exchangepointtop.TopFrames'. -/
def topFramesUptoCard : Claim7 := { stood := { row := topFramesUptoRow, standIns := [], harness := (true, "4ef03a62461c2e49a41ce8ac48712684f76bb9c538884c6f83f44cabcd4c4d2e"), looks := true }, kinds := [], alts := [], laidByText := true, laidKinds := [.data, .data, .data, .data, .sentinel, .sentinel, .widerDeep, .pinned], laidTests := true, laidLooks := .later }
def TopFramesUptoCardSaid : Prop := Claim7.holds Tryz.pinned (.plain (OpenSpec.upto topFramesSpec)) topFramesUptoCard
end Rows
end Go.Proofs.YtalojkjpjdcibaaGreatDoor

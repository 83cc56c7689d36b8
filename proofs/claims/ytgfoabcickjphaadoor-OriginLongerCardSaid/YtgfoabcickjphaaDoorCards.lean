/-
  DERIVED. GIVEN WITH THE SEED: THE CARDS: each row of YtgfoabcickjphaaDoorRows.lean that lists a variable, with what it lists TIED to the program's text (the seventh form; the later family's looks); each row that meets fmt, with fmt's text TOLD by the authors' own Lean function (tested against real Go, not proved from fmt's source: count such statements apart). THE CARD IS WHAT COUNTS. Prove the row's statement (the work); the ties are given (YtgfoabcickjphaaDoorTie.lean); close each card by the builder's one call (the guide's Derived/Test/ToyasCard.lean, 'card_holds'). Laid BY PROGRAM, IN A SANDBOX (cutbox-door.mjs). By AI agents, Wed Nov 11 2026. No macro, syntax, notation, axiom, sorry.
-/
import Derived.Test.YtgfoabcickjphaaDoorRows
import GoSem.ClaimSeven
namespace Go.Proofs.YtgfoabcickjphaaDoor
namespace Rows

/-- THE TIED CARD OF 'exchangepointlaw22.OriginChains'. -/
def originChainsCard : Claim7 := { stood := { row := originChainsRow, standIns := [], harness := (true, "98bc6fea06ba6d30c3ddba8eaffcb34856372b209985df747061ceae673ffcaf"), looks := false }, kinds := [], alts := [], laidByText := true, laidKinds := [.funcs, .funcs], laidTests := true, laidLooks := .later }
def OriginChainsCardSaid : Prop := Claim7.holds Tryd.pinned (.plain (OpenSpec.ofChange originChainsSpec)) originChainsCard

/-- THE TIED CARD OF 'exchangepointlaw22.OriginStates'. -/
def originStatesCard : Claim7 := { stood := { row := originStatesRow, standIns := [], harness := (true, "98bc6fea06ba6d30c3ddba8eaffcb34856372b209985df747061ceae673ffcaf"), looks := false }, kinds := [], alts := [], laidByText := true, laidKinds := [.funcs, .funcs], laidTests := true, laidLooks := .later }
def OriginStatesCardSaid : Prop := Claim7.holds Tryd.pinned (.plain (OpenSpec.ofChange originStatesSpec)) originStatesCard

/-- THE TIED CARD OF 'exchangepointlaw22.OriginLonger'. -/
def originLongerCard : Claim7 := { stood := { row := originLongerRow, standIns := [], harness := (true, "98bc6fea06ba6d30c3ddba8eaffcb34856372b209985df747061ceae673ffcaf"), looks := false }, kinds := [], alts := [], laidByText := true, laidKinds := [.funcs, .funcs], laidTests := true, laidLooks := .later }
def OriginLongerCardSaid : Prop := Claim7.holds Tryd.pinned (.plain (OpenSpec.ofChange originLongerSpec)) originLongerCard

/-- THE SECOND FORM's CARD OF 'exchangepointlaw22.OriginChains'. -/
def originChainsUptoCard : Claim7 := { stood := { row := originChainsUptoRow, standIns := [], harness := (true, "98bc6fea06ba6d30c3ddba8eaffcb34856372b209985df747061ceae673ffcaf"), looks := false }, kinds := [], alts := [], laidByText := true, laidKinds := [.funcs, .funcs], laidTests := true, laidLooks := .later }
def OriginChainsUptoCardSaid : Prop := Claim7.holds Tryd.pinned (.plain (OpenSpec.upto originChainsSpec)) originChainsUptoCard

/-- THE SECOND FORM's CARD OF 'exchangepointlaw22.OriginStates'. -/
def originStatesUptoCard : Claim7 := { stood := { row := originStatesUptoRow, standIns := [], harness := (true, "98bc6fea06ba6d30c3ddba8eaffcb34856372b209985df747061ceae673ffcaf"), looks := false }, kinds := [], alts := [], laidByText := true, laidKinds := [.funcs, .funcs], laidTests := true, laidLooks := .later }
def OriginStatesUptoCardSaid : Prop := Claim7.holds Tryd.pinned (.plain (OpenSpec.upto originStatesSpec)) originStatesUptoCard

/-- THE SECOND FORM's CARD OF 'exchangepointlaw22.OriginLonger'. -/
def originLongerUptoCard : Claim7 := { stood := { row := originLongerUptoRow, standIns := [], harness := (true, "98bc6fea06ba6d30c3ddba8eaffcb34856372b209985df747061ceae673ffcaf"), looks := false }, kinds := [], alts := [], laidByText := true, laidKinds := [.funcs, .funcs], laidTests := true, laidLooks := .later }
def OriginLongerUptoCardSaid : Prop := Claim7.holds Tryd.pinned (.plain (OpenSpec.upto originLongerSpec)) originLongerUptoCard
end Rows
end Go.Proofs.YtgfoabcickjphaaDoor

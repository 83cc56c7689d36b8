/-
  DERIVED. GIVEN WITH THE SEED: THE CARDS: each row of YtplbaenjbihekaaGreatDoorRows.lean that lists a variable, with what it lists TIED to the program's text (the seventh form; the later family's looks); each row that meets fmt, with fmt's text TOLD by the authors' own Lean function (tested against real Go, not proved from fmt's source: count such statements apart). THE CARD IS WHAT COUNTS. Prove the row's statement (the work); the ties are given (YtplbaenjbihekaaGreatDoorTie.lean); close each card by the builder's one call (the guide's Derived/Test/ToyasCard.lean, 'card_holds'). Laid BY PROGRAM, IN A SANDBOX (cutbox-door.mjs). By AI agents, Wed Nov 11 2026. No macro, syntax, notation, axiom, sorry.
-/
import Derived.Test.YtplbaenjbihekaaGreatDoorRows
import GoSem.ClaimSeven
namespace Go.Proofs.YtplbaenjbihekaaGreatDoor
namespace Rows

/-- THE TIED CARD OF 'exchangepointlaw31.PaceQueues'. -/
def paceQueuesCard : Claim7 := { stood := { row := paceQueuesRow, standIns := [], harness := (true, "dc8ec4b95f455f2f2118e4371918e4fdbf8e6c478bb07f33daa0cc64fb0d5ece"), looks := false }, kinds := [], alts := [], laidByText := true, laidKinds := [.mapped], laidTests := true, laidLooks := .later }
def PaceQueuesCardSaid : Prop := Claim7.holds Tryz.pinned (.plain (OpenSpec.ofChange paceQueuesSpec)) paceQueuesCard

/-- THE TIED CARD OF 'exchangepointlaw31.PaceLeads'. -/
def paceLeadsCard : Claim7 := { stood := { row := paceLeadsRow, standIns := [], harness := (true, "dc8ec4b95f455f2f2118e4371918e4fdbf8e6c478bb07f33daa0cc64fb0d5ece"), looks := false }, kinds := [], alts := [], laidByText := true, laidKinds := [.mapped], laidTests := true, laidLooks := .later }
def PaceLeadsCardSaid : Prop := Claim7.holds Tryz.pinned (.plain (OpenSpec.ofChange paceLeadsSpec)) paceLeadsCard

/-- THE TIED CARD OF 'exchangepointlaw31.PaceLimits'. -/
def paceLimitsCard : Claim7 := { stood := { row := paceLimitsRow, standIns := [], harness := (true, "dc8ec4b95f455f2f2118e4371918e4fdbf8e6c478bb07f33daa0cc64fb0d5ece"), looks := false }, kinds := [], alts := [], laidByText := true, laidKinds := [.mapped], laidTests := true, laidLooks := .later }
def PaceLimitsCardSaid : Prop := Claim7.holds Tryz.pinned (.plain (OpenSpec.ofChange paceLimitsSpec)) paceLimitsCard

/-- THE SECOND FORM's CARD OF 'exchangepointlaw31.PaceQueues'. -/
def paceQueuesUptoCard : Claim7 := { stood := { row := paceQueuesUptoRow, standIns := [], harness := (true, "dc8ec4b95f455f2f2118e4371918e4fdbf8e6c478bb07f33daa0cc64fb0d5ece"), looks := false }, kinds := [], alts := [], laidByText := true, laidKinds := [.mapped], laidTests := true, laidLooks := .later }
def PaceQueuesUptoCardSaid : Prop := Claim7.holds Tryz.pinned (.plain (OpenSpec.upto paceQueuesSpec)) paceQueuesUptoCard

/-- THE SECOND FORM's CARD OF 'exchangepointlaw31.PaceLeads'. -/
def paceLeadsUptoCard : Claim7 := { stood := { row := paceLeadsUptoRow, standIns := [], harness := (true, "dc8ec4b95f455f2f2118e4371918e4fdbf8e6c478bb07f33daa0cc64fb0d5ece"), looks := false }, kinds := [], alts := [], laidByText := true, laidKinds := [.mapped], laidTests := true, laidLooks := .later }
def PaceLeadsUptoCardSaid : Prop := Claim7.holds Tryz.pinned (.plain (OpenSpec.upto paceLeadsSpec)) paceLeadsUptoCard

/-- THE SECOND FORM's CARD OF 'exchangepointlaw31.PaceLimits'. -/
def paceLimitsUptoCard : Claim7 := { stood := { row := paceLimitsUptoRow, standIns := [], harness := (true, "dc8ec4b95f455f2f2118e4371918e4fdbf8e6c478bb07f33daa0cc64fb0d5ece"), looks := false }, kinds := [], alts := [], laidByText := true, laidKinds := [.mapped], laidTests := true, laidLooks := .later }
def PaceLimitsUptoCardSaid : Prop := Claim7.holds Tryz.pinned (.plain (OpenSpec.upto paceLimitsSpec)) paceLimitsUptoCard
end Rows
end Go.Proofs.YtplbaenjbihekaaGreatDoor

/-
  DERIVED. GIVEN WITH THE SEED: THE CARDS: each row of YtgcilleccigmdaaDoorRows.lean that lists a variable, with what it lists TIED to the program's text (the seventh form; the later family's looks); each row that meets fmt, with fmt's text TOLD by the authors' own Lean function (tested against real Go, not proved from fmt's source: count such statements apart). THE CARD IS WHAT COUNTS. Prove the row's statement (the work); the ties are given (YtgcilleccigmdaaDoorTie.lean); close each card by the builder's one call (the guide's Derived/Test/ToyasCard.lean, 'card_holds'). Laid BY PROGRAM, IN A SANDBOX (cutbox-door.mjs). By AI agents, Wed Nov 11 2026. No macro, syntax, notation, axiom, sorry.
-/
import Derived.Test.YtgcilleccigmdaaDoorRows
import GoSem.ClaimSeven
namespace Go.Proofs.YtgcilleccigmdaaDoor
namespace Rows

/-- THE TIED CARD OF 'exchangepointlaw21.ResourceHas'. -/
def resourceHasCard : Claim7 := { stood := { row := resourceHasRow, standIns := [], harness := (true, "857863d64da5a88b16a12c7cb158a108d114a29ed1a3c470e4d14a6a171231dd"), looks := false }, kinds := [], alts := [], laidByText := true, laidKinds := [.funcs, .funcs], laidTests := true, laidLooks := .later }
def ResourceHasCardSaid : Prop := Claim7.holds Tryd.pinned (.plain (OpenSpec.ofChange resourceHasSpec)) resourceHasCard

/-- THE TIED CARD OF 'exchangepointlaw21.ResourceMakes'. -/
def resourceMakesCard : Claim7 := { stood := { row := resourceMakesRow, standIns := [], harness := (true, "857863d64da5a88b16a12c7cb158a108d114a29ed1a3c470e4d14a6a171231dd"), looks := false }, kinds := [], alts := [], laidByText := true, laidKinds := [.funcs, .funcs], laidTests := true, laidLooks := .later }
def ResourceMakesCardSaid : Prop := Claim7.holds Tryd.pinned (.plain (OpenSpec.ofChange resourceMakesSpec)) resourceMakesCard

/-- THE TIED CARD OF 'exchangepointlaw21.ResourcePrefixes'. -/
def resourcePrefixesCard : Claim7 := { stood := { row := resourcePrefixesRow, standIns := [], harness := (true, "857863d64da5a88b16a12c7cb158a108d114a29ed1a3c470e4d14a6a171231dd"), looks := false }, kinds := [], alts := [], laidByText := true, laidKinds := [.funcs, .funcs], laidTests := true, laidLooks := .later }
def ResourcePrefixesCardSaid : Prop := Claim7.holds Tryd.pinned (.plain (OpenSpec.ofChange resourcePrefixesSpec)) resourcePrefixesCard

/-- THE TIED CARD OF 'exchangepointlaw21.ResourceLaws'. -/
def resourceLawsCard : Claim7 := { stood := { row := resourceLawsRow, standIns := [], harness := (true, "857863d64da5a88b16a12c7cb158a108d114a29ed1a3c470e4d14a6a171231dd"), looks := false }, kinds := [], alts := [], laidByText := true, laidKinds := [.funcs, .funcs], laidTests := true, laidLooks := .later }
def ResourceLawsCardSaid : Prop := Claim7.holds Tryd.pinned (.plain (OpenSpec.ofChange resourceLawsSpec)) resourceLawsCard

/-- THE SECOND FORM's CARD OF 'exchangepointlaw21.ResourceHas'. -/
def resourceHasUptoCard : Claim7 := { stood := { row := resourceHasUptoRow, standIns := [], harness := (true, "857863d64da5a88b16a12c7cb158a108d114a29ed1a3c470e4d14a6a171231dd"), looks := false }, kinds := [], alts := [], laidByText := true, laidKinds := [.funcs, .funcs], laidTests := true, laidLooks := .later }
def ResourceHasUptoCardSaid : Prop := Claim7.holds Tryd.pinned (.plain (OpenSpec.upto resourceHasSpec)) resourceHasUptoCard

/-- THE SECOND FORM's CARD OF 'exchangepointlaw21.ResourceMakes'. -/
def resourceMakesUptoCard : Claim7 := { stood := { row := resourceMakesUptoRow, standIns := [], harness := (true, "857863d64da5a88b16a12c7cb158a108d114a29ed1a3c470e4d14a6a171231dd"), looks := false }, kinds := [], alts := [], laidByText := true, laidKinds := [.funcs, .funcs], laidTests := true, laidLooks := .later }
def ResourceMakesUptoCardSaid : Prop := Claim7.holds Tryd.pinned (.plain (OpenSpec.upto resourceMakesSpec)) resourceMakesUptoCard

/-- THE SECOND FORM's CARD OF 'exchangepointlaw21.ResourcePrefixes'. -/
def resourcePrefixesUptoCard : Claim7 := { stood := { row := resourcePrefixesUptoRow, standIns := [], harness := (true, "857863d64da5a88b16a12c7cb158a108d114a29ed1a3c470e4d14a6a171231dd"), looks := false }, kinds := [], alts := [], laidByText := true, laidKinds := [.funcs, .funcs], laidTests := true, laidLooks := .later }
def ResourcePrefixesUptoCardSaid : Prop := Claim7.holds Tryd.pinned (.plain (OpenSpec.upto resourcePrefixesSpec)) resourcePrefixesUptoCard

/-- THE SECOND FORM's CARD OF 'exchangepointlaw21.ResourceLaws'. -/
def resourceLawsUptoCard : Claim7 := { stood := { row := resourceLawsUptoRow, standIns := [], harness := (true, "857863d64da5a88b16a12c7cb158a108d114a29ed1a3c470e4d14a6a171231dd"), looks := false }, kinds := [], alts := [], laidByText := true, laidKinds := [.funcs, .funcs], laidTests := true, laidLooks := .later }
def ResourceLawsUptoCardSaid : Prop := Claim7.holds Tryd.pinned (.plain (OpenSpec.upto resourceLawsSpec)) resourceLawsUptoCard
end Rows
end Go.Proofs.YtgcilleccigmdaaDoor

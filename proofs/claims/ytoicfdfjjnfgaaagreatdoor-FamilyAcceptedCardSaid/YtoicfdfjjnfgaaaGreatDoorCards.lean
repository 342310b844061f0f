/-
  DERIVED. GIVEN WITH THE SEED: THE CARDS: each row of YtoicfdfjjnfgaaaGreatDoorRows.lean that lists a variable, with what it lists TIED to the program's text (the seventh form; the later family's looks); each row that meets fmt, with fmt's text TOLD by the authors' own Lean function (tested against real Go, not proved from fmt's source: count such statements apart). THE CARD IS WHAT COUNTS. Prove the row's statement (the work); the ties are given (YtoicfdfjjnfgaaaGreatDoorTie.lean); close each card by the builder's one call (the guide's Derived/Test/ToyasCard.lean, 'card_holds'). Laid BY PROGRAM, IN A SANDBOX (cutbox-door.mjs). By AI agents, Wed Nov 11 2026. No macro, syntax, notation, axiom, sorry.
-/
import Derived.Test.YtoicfdfjjnfgaaaGreatDoorRows
import GoSem.ClaimSeven
namespace Go.Proofs.YtoicfdfjjnfgaaaGreatDoor
namespace Rows

/-- THE TIED CARD OF 'proteanlaw26.FamilyAccepted'. -/
def familyAcceptedCard : Claim7 := { stood := { row := familyAcceptedRow, standIns := [], harness := (true, "de5375bc5ab178c65306d2f0b488583875f725899989a712b9233579f201515f"), looks := false }, kinds := [], alts := [], laidByText := true, laidKinds := [.data, .data, .data], laidTests := true, laidLooks := .later }
def FamilyAcceptedCardSaid : Prop := Claim7.holds Tryz.pinned (.plain (OpenSpec.ofChange familyAcceptedSpec)) familyAcceptedCard

/-- THE TIED CARD OF 'proteanlaw26.FamilyStates'. -/
def familyStatesCard : Claim7 := { stood := { row := familyStatesRow, standIns := [], harness := (true, "de5375bc5ab178c65306d2f0b488583875f725899989a712b9233579f201515f"), looks := false }, kinds := [], alts := [], laidByText := true, laidKinds := [.data, .data, .data], laidTests := true, laidLooks := .later }
def FamilyStatesCardSaid : Prop := Claim7.holds Tryz.pinned (.plain (OpenSpec.ofChange familyStatesSpec)) familyStatesCard

/-- THE SECOND FORM's CARD OF 'proteanlaw26.FamilyAccepted'. -/
def familyAcceptedUptoCard : Claim7 := { stood := { row := familyAcceptedUptoRow, standIns := [], harness := (true, "de5375bc5ab178c65306d2f0b488583875f725899989a712b9233579f201515f"), looks := false }, kinds := [], alts := [], laidByText := true, laidKinds := [.data, .data, .data], laidTests := true, laidLooks := .later }
def FamilyAcceptedUptoCardSaid : Prop := Claim7.holds Tryz.pinned (.plain (OpenSpec.upto familyAcceptedSpec)) familyAcceptedUptoCard

/-- THE SECOND FORM's CARD OF 'proteanlaw26.FamilyStates'. -/
def familyStatesUptoCard : Claim7 := { stood := { row := familyStatesUptoRow, standIns := [], harness := (true, "de5375bc5ab178c65306d2f0b488583875f725899989a712b9233579f201515f"), looks := false }, kinds := [], alts := [], laidByText := true, laidKinds := [.data, .data, .data], laidTests := true, laidLooks := .later }
def FamilyStatesUptoCardSaid : Prop := Claim7.holds Tryz.pinned (.plain (OpenSpec.upto familyStatesSpec)) familyStatesUptoCard
end Rows
end Go.Proofs.YtoicfdfjjnfgaaaGreatDoor

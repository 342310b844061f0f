/-
  DERIVED. GIVEN WITH THE SEED: THE CARDS: each row of YtijheoafbhjcbaaGreatDoorRows.lean that lists a variable, with what it lists TIED to the program's text (the seventh form; the later family's looks); each row that meets fmt, with fmt's text TOLD by the authors' own Lean function (tested against real Go, not proved from fmt's source: count such statements apart). THE CARD IS WHAT COUNTS. Prove the row's statement (the work); the ties are given (YtijheoafbhjcbaaGreatDoorTie.lean); close each card by the builder's one call (the guide's Derived/Test/ToyasCard.lean, 'card_holds'). Laid BY PROGRAM, IN A SANDBOX (cutbox-door.mjs). By AI agents, Wed Nov 11 2026. No macro, syntax, notation, axiom, sorry.
-/
import Derived.Test.YtijheoafbhjcbaaGreatDoorRows
import GoSem.ClaimSeven
namespace Go.Proofs.YtijheoafbhjcbaaGreatDoor
namespace Rows

/-- THE TIED CARD OF 'proteanlaw08.StateTells'. -/
def stateTellsCard : Claim7 := { stood := { row := stateTellsRow, standIns := [], harness := (true, "40fd4b2f6d075b1b9a5f0a4b4a79e148947856caf51e74595502f84a321a75e7"), looks := false }, kinds := [], alts := [], laidByText := true, laidKinds := [.data, .data, .data], laidTests := true, laidLooks := .later }
def StateTellsCardSaid : Prop := Claim7.holds Tryz.pinned (.plain (OpenSpec.ofChange stateTellsSpec)) stateTellsCard

/-- THE TIED CARD OF 'proteanlaw08.StateSets'. -/
def stateSetsCard : Claim7 := { stood := { row := stateSetsRow, standIns := [], harness := (true, "40fd4b2f6d075b1b9a5f0a4b4a79e148947856caf51e74595502f84a321a75e7"), looks := false }, kinds := [], alts := [], laidByText := true, laidKinds := [.data, .data, .data], laidTests := true, laidLooks := .later }
def StateSetsCardSaid : Prop := Claim7.holds Tryz.pinned (.plain (OpenSpec.ofChange stateSetsSpec)) stateSetsCard

/-- THE TIED CARD OF 'proteanlaw08.StateJoin'. -/
def stateJoinCard : Claim7 := { stood := { row := stateJoinRow, standIns := [], harness := (true, "40fd4b2f6d075b1b9a5f0a4b4a79e148947856caf51e74595502f84a321a75e7"), looks := false }, kinds := [], alts := [], laidByText := true, laidKinds := [.data, .data, .data], laidTests := true, laidLooks := .later }
def StateJoinCardSaid : Prop := Claim7.holds Tryz.pinned (.plain (OpenSpec.ofChange stateJoinSpec)) stateJoinCard

/-- THE TIED CARD OF 'proteanlaw08.StateOrder'. -/
def stateOrderCard : Claim7 := { stood := { row := stateOrderRow, standIns := [], harness := (true, "40fd4b2f6d075b1b9a5f0a4b4a79e148947856caf51e74595502f84a321a75e7"), looks := false }, kinds := [], alts := [], laidByText := true, laidKinds := [.data, .data, .data], laidTests := true, laidLooks := .later }
def StateOrderCardSaid : Prop := Claim7.holds Tryz.pinned (.plain (OpenSpec.ofChange stateOrderSpec)) stateOrderCard

/-- THE TIED CARD OF 'proteanlaw08.StateApart'. -/
def stateApartCard : Claim7 := { stood := { row := stateApartRow, standIns := [], harness := (true, "40fd4b2f6d075b1b9a5f0a4b4a79e148947856caf51e74595502f84a321a75e7"), looks := false }, kinds := [], alts := [], laidByText := true, laidKinds := [.data, .data, .data], laidTests := true, laidLooks := .later }
def StateApartCardSaid : Prop := Claim7.holds Tryz.pinned (.plain (OpenSpec.ofChange stateApartSpec)) stateApartCard

/-- THE TIED CARD OF 'proteanlaw08.StateJoined'. -/
def stateJoinedCard : Claim7 := { stood := { row := stateJoinedRow, standIns := [], harness := (true, "40fd4b2f6d075b1b9a5f0a4b4a79e148947856caf51e74595502f84a321a75e7"), looks := false }, kinds := [], alts := [], laidByText := true, laidKinds := [.data, .data, .data], laidTests := true, laidLooks := .later }
def StateJoinedCardSaid : Prop := Claim7.holds Tryz.pinned (.plain (OpenSpec.ofChange stateJoinedSpec)) stateJoinedCard

/-- THE SECOND FORM's CARD OF 'proteanlaw08.StateTells'. -/
def stateTellsUptoCard : Claim7 := { stood := { row := stateTellsUptoRow, standIns := [], harness := (true, "40fd4b2f6d075b1b9a5f0a4b4a79e148947856caf51e74595502f84a321a75e7"), looks := false }, kinds := [], alts := [], laidByText := true, laidKinds := [.data, .data, .data], laidTests := true, laidLooks := .later }
def StateTellsUptoCardSaid : Prop := Claim7.holds Tryz.pinned (.plain (OpenSpec.upto stateTellsSpec)) stateTellsUptoCard

/-- THE SECOND FORM's CARD OF 'proteanlaw08.StateSets'. -/
def stateSetsUptoCard : Claim7 := { stood := { row := stateSetsUptoRow, standIns := [], harness := (true, "40fd4b2f6d075b1b9a5f0a4b4a79e148947856caf51e74595502f84a321a75e7"), looks := false }, kinds := [], alts := [], laidByText := true, laidKinds := [.data, .data, .data], laidTests := true, laidLooks := .later }
def StateSetsUptoCardSaid : Prop := Claim7.holds Tryz.pinned (.plain (OpenSpec.upto stateSetsSpec)) stateSetsUptoCard

/-- THE SECOND FORM's CARD OF 'proteanlaw08.StateJoin'. -/
def stateJoinUptoCard : Claim7 := { stood := { row := stateJoinUptoRow, standIns := [], harness := (true, "40fd4b2f6d075b1b9a5f0a4b4a79e148947856caf51e74595502f84a321a75e7"), looks := false }, kinds := [], alts := [], laidByText := true, laidKinds := [.data, .data, .data], laidTests := true, laidLooks := .later }
def StateJoinUptoCardSaid : Prop := Claim7.holds Tryz.pinned (.plain (OpenSpec.upto stateJoinSpec)) stateJoinUptoCard

/-- THE SECOND FORM's CARD OF 'proteanlaw08.StateOrder'. -/
def stateOrderUptoCard : Claim7 := { stood := { row := stateOrderUptoRow, standIns := [], harness := (true, "40fd4b2f6d075b1b9a5f0a4b4a79e148947856caf51e74595502f84a321a75e7"), looks := false }, kinds := [], alts := [], laidByText := true, laidKinds := [.data, .data, .data], laidTests := true, laidLooks := .later }
def StateOrderUptoCardSaid : Prop := Claim7.holds Tryz.pinned (.plain (OpenSpec.upto stateOrderSpec)) stateOrderUptoCard

/-- THE SECOND FORM's CARD OF 'proteanlaw08.StateApart'. -/
def stateApartUptoCard : Claim7 := { stood := { row := stateApartUptoRow, standIns := [], harness := (true, "40fd4b2f6d075b1b9a5f0a4b4a79e148947856caf51e74595502f84a321a75e7"), looks := false }, kinds := [], alts := [], laidByText := true, laidKinds := [.data, .data, .data], laidTests := true, laidLooks := .later }
def StateApartUptoCardSaid : Prop := Claim7.holds Tryz.pinned (.plain (OpenSpec.upto stateApartSpec)) stateApartUptoCard

/-- THE SECOND FORM's CARD OF 'proteanlaw08.StateJoined'. -/
def stateJoinedUptoCard : Claim7 := { stood := { row := stateJoinedUptoRow, standIns := [], harness := (true, "40fd4b2f6d075b1b9a5f0a4b4a79e148947856caf51e74595502f84a321a75e7"), looks := false }, kinds := [], alts := [], laidByText := true, laidKinds := [.data, .data, .data], laidTests := true, laidLooks := .later }
def StateJoinedUptoCardSaid : Prop := Claim7.holds Tryz.pinned (.plain (OpenSpec.upto stateJoinedSpec)) stateJoinedUptoCard
end Rows
end Go.Proofs.YtijheoafbhjcbaaGreatDoor

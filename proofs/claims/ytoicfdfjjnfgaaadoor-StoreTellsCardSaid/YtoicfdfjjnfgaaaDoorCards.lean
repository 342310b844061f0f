/-
  DERIVED. GIVEN WITH THE SEED: THE CARDS: each row of YtoicfdfjjnfgaaaDoorRows.lean that lists a variable, with what it lists TIED to the program's text (the seventh form; the later family's looks); each row that meets fmt, with fmt's text TOLD by the authors' own Lean function (tested against real Go, not proved from fmt's source: count such statements apart). THE CARD IS WHAT COUNTS. Prove the row's statement (the work); the ties are given (YtoicfdfjjnfgaaaDoorTie.lean); close each card by the builder's one call (the guide's Derived/Test/ToyasCard.lean, 'card_holds'). Laid BY PROGRAM, IN A SANDBOX (cutbox-door.mjs). By AI agents, Wed Nov 11 2026. No macro, syntax, notation, axiom, sorry.
-/
import Derived.Test.YtoicfdfjjnfgaaaDoorRows
import GoSem.ClaimSeven
namespace Go.Proofs.YtoicfdfjjnfgaaaDoor
namespace Rows

/-- THE TIED CARD OF 'proteanlaw26.FamilyTells'. -/
def familyTellsCard : Claim7 := { stood := { row := familyTellsRow, standIns := [], harness := (true, "d1ea23954fd6ce6ecebe9b57a955492611075a09ca975f64d2162d95e9b157c9"), looks := false }, kinds := [], alts := [], laidByText := true, laidKinds := [.data, .data, .data], laidTests := true, laidLooks := .later }
def FamilyTellsCardSaid : Prop := Claim7.holds Tryd.pinned (.plain (OpenSpec.ofChange familyTellsSpec)) familyTellsCard

/-- THE TIED CARD OF 'proteanlaw26.FamilyUnlike'. -/
def familyUnlikeCard : Claim7 := { stood := { row := familyUnlikeRow, standIns := [], harness := (true, "d1ea23954fd6ce6ecebe9b57a955492611075a09ca975f64d2162d95e9b157c9"), looks := false }, kinds := [], alts := [], laidByText := true, laidKinds := [.data, .data, .data], laidTests := true, laidLooks := .later }
def FamilyUnlikeCardSaid : Prop := Claim7.holds Tryd.pinned (.plain (OpenSpec.ofChange familyUnlikeSpec)) familyUnlikeCard

/-- THE TIED CARD OF 'proteanlaw19.StoreTells'. -/
def storeTellsCard : Claim7 := { stood := { row := storeTellsRow, standIns := [], harness := (true, "d1ea23954fd6ce6ecebe9b57a955492611075a09ca975f64d2162d95e9b157c9"), looks := false }, kinds := [], alts := [], laidByText := true, laidKinds := [.data, .data, .data], laidTests := true, laidLooks := .later }
def StoreTellsCardSaid : Prop := Claim7.holds Tryd.pinned (.plain (OpenSpec.ofChange storeTellsSpec)) storeTellsCard

/-- THE TIED CARD OF 'proteanlaw19.StoreSets'. -/
def storeSetsCard : Claim7 := { stood := { row := storeSetsRow, standIns := [], harness := (true, "d1ea23954fd6ce6ecebe9b57a955492611075a09ca975f64d2162d95e9b157c9"), looks := false }, kinds := [], alts := [], laidByText := true, laidKinds := [.data, .data, .data], laidTests := true, laidLooks := .later }
def StoreSetsCardSaid : Prop := Claim7.holds Tryd.pinned (.plain (OpenSpec.ofChange storeSetsSpec)) storeSetsCard

/-- THE TIED CARD OF 'proteanlaw19.StoreGrows'. -/
def storeGrowsCard : Claim7 := { stood := { row := storeGrowsRow, standIns := [], harness := (true, "d1ea23954fd6ce6ecebe9b57a955492611075a09ca975f64d2162d95e9b157c9"), looks := false }, kinds := [], alts := [], laidByText := true, laidKinds := [.data, .data, .data], laidTests := true, laidLooks := .later }
def StoreGrowsCardSaid : Prop := Claim7.holds Tryd.pinned (.plain (OpenSpec.ofChange storeGrowsSpec)) storeGrowsCard

/-- THE TIED CARD OF 'proteanlaw19.StoreTurns'. -/
def storeTurnsCard : Claim7 := { stood := { row := storeTurnsRow, standIns := [], harness := (true, "d1ea23954fd6ce6ecebe9b57a955492611075a09ca975f64d2162d95e9b157c9"), looks := false }, kinds := [], alts := [], laidByText := true, laidKinds := [.data, .data, .data], laidTests := true, laidLooks := .later }
def StoreTurnsCardSaid : Prop := Claim7.holds Tryd.pinned (.plain (OpenSpec.ofChange storeTurnsSpec)) storeTurnsCard

/-- THE SECOND FORM's CARD OF 'proteanlaw26.FamilyTells'. -/
def familyTellsUptoCard : Claim7 := { stood := { row := familyTellsUptoRow, standIns := [], harness := (true, "d1ea23954fd6ce6ecebe9b57a955492611075a09ca975f64d2162d95e9b157c9"), looks := false }, kinds := [], alts := [], laidByText := true, laidKinds := [.data, .data, .data], laidTests := true, laidLooks := .later }
def FamilyTellsUptoCardSaid : Prop := Claim7.holds Tryd.pinned (.plain (OpenSpec.upto familyTellsSpec)) familyTellsUptoCard

/-- THE SECOND FORM's CARD OF 'proteanlaw26.FamilyUnlike'. -/
def familyUnlikeUptoCard : Claim7 := { stood := { row := familyUnlikeUptoRow, standIns := [], harness := (true, "d1ea23954fd6ce6ecebe9b57a955492611075a09ca975f64d2162d95e9b157c9"), looks := false }, kinds := [], alts := [], laidByText := true, laidKinds := [.data, .data, .data], laidTests := true, laidLooks := .later }
def FamilyUnlikeUptoCardSaid : Prop := Claim7.holds Tryd.pinned (.plain (OpenSpec.upto familyUnlikeSpec)) familyUnlikeUptoCard

/-- THE SECOND FORM's CARD OF 'proteanlaw19.StoreTells'. -/
def storeTellsUptoCard : Claim7 := { stood := { row := storeTellsUptoRow, standIns := [], harness := (true, "d1ea23954fd6ce6ecebe9b57a955492611075a09ca975f64d2162d95e9b157c9"), looks := false }, kinds := [], alts := [], laidByText := true, laidKinds := [.data, .data, .data], laidTests := true, laidLooks := .later }
def StoreTellsUptoCardSaid : Prop := Claim7.holds Tryd.pinned (.plain (OpenSpec.upto storeTellsSpec)) storeTellsUptoCard

/-- THE SECOND FORM's CARD OF 'proteanlaw19.StoreSets'. -/
def storeSetsUptoCard : Claim7 := { stood := { row := storeSetsUptoRow, standIns := [], harness := (true, "d1ea23954fd6ce6ecebe9b57a955492611075a09ca975f64d2162d95e9b157c9"), looks := false }, kinds := [], alts := [], laidByText := true, laidKinds := [.data, .data, .data], laidTests := true, laidLooks := .later }
def StoreSetsUptoCardSaid : Prop := Claim7.holds Tryd.pinned (.plain (OpenSpec.upto storeSetsSpec)) storeSetsUptoCard

/-- THE SECOND FORM's CARD OF 'proteanlaw19.StoreGrows'. -/
def storeGrowsUptoCard : Claim7 := { stood := { row := storeGrowsUptoRow, standIns := [], harness := (true, "d1ea23954fd6ce6ecebe9b57a955492611075a09ca975f64d2162d95e9b157c9"), looks := false }, kinds := [], alts := [], laidByText := true, laidKinds := [.data, .data, .data], laidTests := true, laidLooks := .later }
def StoreGrowsUptoCardSaid : Prop := Claim7.holds Tryd.pinned (.plain (OpenSpec.upto storeGrowsSpec)) storeGrowsUptoCard

/-- THE SECOND FORM's CARD OF 'proteanlaw19.StoreTurns'. -/
def storeTurnsUptoCard : Claim7 := { stood := { row := storeTurnsUptoRow, standIns := [], harness := (true, "d1ea23954fd6ce6ecebe9b57a955492611075a09ca975f64d2162d95e9b157c9"), looks := false }, kinds := [], alts := [], laidByText := true, laidKinds := [.data, .data, .data], laidTests := true, laidLooks := .later }
def StoreTurnsUptoCardSaid : Prop := Claim7.holds Tryd.pinned (.plain (OpenSpec.upto storeTurnsSpec)) storeTurnsUptoCard
end Rows
end Go.Proofs.YtoicfdfjjnfgaaaDoor

/-
  DERIVED. GIVEN WITH THE SEED: THE CARDS: each row of YtijheoafbhjcbaaDoorRows.lean that lists a variable, with what it lists TIED to the program's text (the seventh form; the later family's looks); each row that meets fmt, with fmt's text TOLD by the authors' own Lean function (tested against real Go, not proved from fmt's source: count such statements apart). THE CARD IS WHAT COUNTS. Prove the row's statement (the work); the ties are given (YtijheoafbhjcbaaDoorTie.lean); close each card by the builder's one call (the guide's Derived/Test/ToyasCard.lean, 'card_holds'). Laid BY PROGRAM, IN A SANDBOX (cutbox-door.mjs). By AI agents, Wed Nov 11 2026. No macro, syntax, notation, axiom, sorry.
-/
import Derived.Test.YtijheoafbhjcbaaDoorRows
import GoSem.ClaimSeven
namespace Go.Proofs.YtijheoafbhjcbaaDoor
namespace Rows

/-- THE TIED CARD OF 'proteanlaw06.AtomsTells'. -/
def atomsTellsCard : Claim7 := { stood := { row := atomsTellsRow, standIns := [], harness := (true, "96b50edbb680056ce56d167bfcb51f7e470399c271b7de396f1cccd4123052d8"), looks := false }, kinds := [], alts := [], laidByText := true, laidKinds := [.data, .data, .data], laidTests := true, laidLooks := .later }
def AtomsTellsCardSaid : Prop := Claim7.holds Tryd.pinned (.plain (OpenSpec.ofChange atomsTellsSpec)) atomsTellsCard

/-- THE TIED CARD OF 'proteanlaw06.AtomsUnion'. -/
def atomsUnionCard : Claim7 := { stood := { row := atomsUnionRow, standIns := [], harness := (true, "96b50edbb680056ce56d167bfcb51f7e470399c271b7de396f1cccd4123052d8"), looks := false }, kinds := [], alts := [], laidByText := true, laidKinds := [.data, .data, .data], laidTests := true, laidLooks := .later }
def AtomsUnionCardSaid : Prop := Claim7.holds Tryd.pinned (.plain (OpenSpec.ofChange atomsUnionSpec)) atomsUnionCard

/-- THE TIED CARD OF 'proteanlaw06.AtomsRenamed'. -/
def atomsRenamedCard : Claim7 := { stood := { row := atomsRenamedRow, standIns := [], harness := (true, "96b50edbb680056ce56d167bfcb51f7e470399c271b7de396f1cccd4123052d8"), looks := false }, kinds := [], alts := [], laidByText := true, laidKinds := [.data, .data, .data], laidTests := true, laidLooks := .later }
def AtomsRenamedCardSaid : Prop := Claim7.holds Tryd.pinned (.plain (OpenSpec.ofChange atomsRenamedSpec)) atomsRenamedCard

/-- THE TIED CARD OF 'proteanlaw06.AtomsTexts'. -/
def atomsTextsCard : Claim7 := { stood := { row := atomsTextsRow, standIns := [], harness := (true, "96b50edbb680056ce56d167bfcb51f7e470399c271b7de396f1cccd4123052d8"), looks := false }, kinds := [], alts := [], laidByText := true, laidKinds := [.data, .data, .data], laidTests := true, laidLooks := .later }
def AtomsTextsCardSaid : Prop := Claim7.holds Tryd.pinned (.plain (OpenSpec.ofChange atomsTextsSpec)) atomsTextsCard

/-- THE TIED CARD OF 'proteanlaw06.AtomsIn'. -/
def atomsInCard : Claim7 := { stood := { row := atomsInRow, standIns := [], harness := (true, "96b50edbb680056ce56d167bfcb51f7e470399c271b7de396f1cccd4123052d8"), looks := false }, kinds := [], alts := [], laidByText := true, laidKinds := [.data, .data, .data], laidTests := true, laidLooks := .later }
def AtomsInCardSaid : Prop := Claim7.holds Tryd.pinned (.plain (OpenSpec.ofChange atomsInSpec)) atomsInCard

/-- THE SECOND FORM's CARD OF 'proteanlaw06.AtomsTells'. -/
def atomsTellsUptoCard : Claim7 := { stood := { row := atomsTellsUptoRow, standIns := [], harness := (true, "96b50edbb680056ce56d167bfcb51f7e470399c271b7de396f1cccd4123052d8"), looks := false }, kinds := [], alts := [], laidByText := true, laidKinds := [.data, .data, .data], laidTests := true, laidLooks := .later }
def AtomsTellsUptoCardSaid : Prop := Claim7.holds Tryd.pinned (.plain (OpenSpec.upto atomsTellsSpec)) atomsTellsUptoCard

/-- THE SECOND FORM's CARD OF 'proteanlaw06.AtomsUnion'. -/
def atomsUnionUptoCard : Claim7 := { stood := { row := atomsUnionUptoRow, standIns := [], harness := (true, "96b50edbb680056ce56d167bfcb51f7e470399c271b7de396f1cccd4123052d8"), looks := false }, kinds := [], alts := [], laidByText := true, laidKinds := [.data, .data, .data], laidTests := true, laidLooks := .later }
def AtomsUnionUptoCardSaid : Prop := Claim7.holds Tryd.pinned (.plain (OpenSpec.upto atomsUnionSpec)) atomsUnionUptoCard

/-- THE SECOND FORM's CARD OF 'proteanlaw06.AtomsRenamed'. -/
def atomsRenamedUptoCard : Claim7 := { stood := { row := atomsRenamedUptoRow, standIns := [], harness := (true, "96b50edbb680056ce56d167bfcb51f7e470399c271b7de396f1cccd4123052d8"), looks := false }, kinds := [], alts := [], laidByText := true, laidKinds := [.data, .data, .data], laidTests := true, laidLooks := .later }
def AtomsRenamedUptoCardSaid : Prop := Claim7.holds Tryd.pinned (.plain (OpenSpec.upto atomsRenamedSpec)) atomsRenamedUptoCard

/-- THE SECOND FORM's CARD OF 'proteanlaw06.AtomsTexts'. -/
def atomsTextsUptoCard : Claim7 := { stood := { row := atomsTextsUptoRow, standIns := [], harness := (true, "96b50edbb680056ce56d167bfcb51f7e470399c271b7de396f1cccd4123052d8"), looks := false }, kinds := [], alts := [], laidByText := true, laidKinds := [.data, .data, .data], laidTests := true, laidLooks := .later }
def AtomsTextsUptoCardSaid : Prop := Claim7.holds Tryd.pinned (.plain (OpenSpec.upto atomsTextsSpec)) atomsTextsUptoCard

/-- THE SECOND FORM's CARD OF 'proteanlaw06.AtomsIn'. -/
def atomsInUptoCard : Claim7 := { stood := { row := atomsInUptoRow, standIns := [], harness := (true, "96b50edbb680056ce56d167bfcb51f7e470399c271b7de396f1cccd4123052d8"), looks := false }, kinds := [], alts := [], laidByText := true, laidKinds := [.data, .data, .data], laidTests := true, laidLooks := .later }
def AtomsInUptoCardSaid : Prop := Claim7.holds Tryd.pinned (.plain (OpenSpec.upto atomsInSpec)) atomsInUptoCard
end Rows
end Go.Proofs.YtijheoafbhjcbaaDoor

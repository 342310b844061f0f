/-
  No cell of these rows narrows 'for every input' (looked for: loops, veiled, ifaces, maps, wideKeys, modest, calm, conditions, laid).
  DERIVED. THE GIVEN ROWS OF THIS SEAT. 11 by the template 'for every input the law returns true; each argument reads behind the call as it read before'; 0 by the template 'total and deterministic' (their statements: YthafiojejnhgeaaTotals.lean).
  GIVEN WITH THE SEED: the statements are not yours to turn. If you find one false, say at which input.
  Laid BY PROGRAM, IN A SANDBOX (cutbox-rows.mjs): the forced cells as the released guide's own fill.sh prints them over the translation 7a5490d5822f388f… (all of the seat's roots in one cut). By AI agents, Wed Nov 11 2026. No macro, syntax, notation, axiom, sorry.
-/
import Derived.Test.YthafiojejnhgeaaChecked
import GoSem.Claim
import GoSem.ClaimJoined
import GoSem.ClaimMapViews
import Derived.JoinedTies
import Derived.KernelRfl
namespace Go.Proofs.Ythafiojejnhgeaa
/- THE CELL 'sum', in the pinned program and in every row, IS THE sha256 OF THE DUMP (.gsa) THAT YthafiojejnhgeaaProg.lean LOADS. Nothing in Lean hashes anything: it is a label: what it is worth is what the hold of that sum in a sandbox is worth. -/
noncomputable def Try.pinned : Pinned := { name := "ythafiojejnhgeaa", sum := "7a5490d5822f388f9de9182cdffe9b3bebab292cb3efcee4434a5a9602938bb7", checked := Try.checked }
namespace Rows
def none {H : Type} : Left H := { results := [], args := [] }

/-- 'proteanlaw07.ObjectTells': WHATEVER THE INPUT: true; the input reads as it did. -/
def objectTellsSpec : ChangeSpec := { name := "objectTells", fn := fun _ => fun
  | [d1, d2, d3] => { results := [.lit (.bool true)], args := [d1, d2, d3] }
  | _ => none }
def objectTellsRow : OpenClaim := { program := "ythafiojejnhgeaa", sum := "7a5490d5822f388f9de9182cdffe9b3bebab292cb3efcee4434a5a9602938bb7", func := "protean/proteanlaw07.ObjectTells", spec := "objectTells", inPlace := ["internal/bytealg.abigen_runtime_cmpstring", "slices.overlaps[protean/api.Field]"], unfollowed := true, recurses := true, apart := false }
def ObjectTellsSaid : Prop := objectTellsRow.holds Try.pinned (OpenSpec.ofChange objectTellsSpec)

/-- ITS FALSE NEIGHBOUR: 'it returns false'. Refute it at one input. -/
def objectTellsWrong : ChangeSpec := { name := "objectTells", fn := fun _ => fun
  | [d1, d2, d3] => { results := [.lit (.bool false)], args := [d1, d2, d3] }
  | _ => none }
def ObjectTellsWrongFalsely : Prop := objectTellsRow.holds Try.pinned (OpenSpec.ofChange objectTellsWrong)

/-- 'proteanlaw07.ObjectJoin': WHATEVER THE INPUT: true; the input reads as it did. -/
def objectJoinSpec : ChangeSpec := { name := "objectJoin", fn := fun _ => fun
  | [d1, d2, d3] => { results := [.lit (.bool true)], args := [d1, d2, d3] }
  | _ => none }
def objectJoinRow : OpenClaim := { program := "ythafiojejnhgeaa", sum := "7a5490d5822f388f9de9182cdffe9b3bebab292cb3efcee4434a5a9602938bb7", func := "protean/proteanlaw07.ObjectJoin", spec := "objectJoin", inPlace := ["internal/bytealg.abigen_runtime_cmpstring", "slices.overlaps[protean/api.Field]"], unfollowed := true, recurses := true, apart := false }
def ObjectJoinSaid : Prop := objectJoinRow.holds Try.pinned (OpenSpec.ofChange objectJoinSpec)

/-- ITS FALSE NEIGHBOUR: 'it returns false'. Refute it at one input. -/
def objectJoinWrong : ChangeSpec := { name := "objectJoin", fn := fun _ => fun
  | [d1, d2, d3] => { results := [.lit (.bool false)], args := [d1, d2, d3] }
  | _ => none }
def ObjectJoinWrongFalsely : Prop := objectJoinRow.holds Try.pinned (OpenSpec.ofChange objectJoinWrong)

/-- 'proteanlaw07.ObjectWeaker': WHATEVER THE INPUT: true; the input reads as it did. -/
def objectWeakerSpec : ChangeSpec := { name := "objectWeaker", fn := fun _ => fun
  | [d1, d2, d3] => { results := [.lit (.bool true)], args := [d1, d2, d3] }
  | _ => none }
def objectWeakerRow : OpenClaim := { program := "ythafiojejnhgeaa", sum := "7a5490d5822f388f9de9182cdffe9b3bebab292cb3efcee4434a5a9602938bb7", func := "protean/proteanlaw07.ObjectWeaker", spec := "objectWeaker", inPlace := ["internal/bytealg.abigen_runtime_cmpstring", "slices.overlaps[protean/api.Field]"], unfollowed := true, recurses := true, apart := false }
def ObjectWeakerSaid : Prop := objectWeakerRow.holds Try.pinned (OpenSpec.ofChange objectWeakerSpec)

/-- ITS FALSE NEIGHBOUR: 'it returns false'. Refute it at one input. -/
def objectWeakerWrong : ChangeSpec := { name := "objectWeaker", fn := fun _ => fun
  | [d1, d2, d3] => { results := [.lit (.bool false)], args := [d1, d2, d3] }
  | _ => none }
def ObjectWeakerWrongFalsely : Prop := objectWeakerRow.holds Try.pinned (OpenSpec.ofChange objectWeakerWrong)

/-- 'proteanlaw07.ObjectJoined': WHATEVER THE INPUT: true; the input reads as it did. -/
def objectJoinedSpec : ChangeSpec := { name := "objectJoined", fn := fun _ => fun
  | [d1, d2, d3] => { results := [.lit (.bool true)], args := [d1, d2, d3] }
  | _ => none }
def objectJoinedRow : OpenClaim := { program := "ythafiojejnhgeaa", sum := "7a5490d5822f388f9de9182cdffe9b3bebab292cb3efcee4434a5a9602938bb7", func := "protean/proteanlaw07.ObjectJoined", spec := "objectJoined", inPlace := ["internal/bytealg.abigen_runtime_cmpstring", "slices.overlaps[protean/api.Field]"], unfollowed := true, recurses := true, apart := false }
def ObjectJoinedSaid : Prop := objectJoinedRow.holds Try.pinned (OpenSpec.ofChange objectJoinedSpec)

/-- ITS FALSE NEIGHBOUR: 'it returns false'. Refute it at one input. -/
def objectJoinedWrong : ChangeSpec := { name := "objectJoined", fn := fun _ => fun
  | [d1, d2, d3] => { results := [.lit (.bool false)], args := [d1, d2, d3] }
  | _ => none }
def ObjectJoinedWrongFalsely : Prop := objectJoinedRow.holds Try.pinned (OpenSpec.ofChange objectJoinedWrong)

/-- 'proteanlaw07.ObjectWrites': WHATEVER THE INPUT: true; the input reads as it did. -/
def objectWritesSpec : ChangeSpec := { name := "objectWrites", fn := fun _ => fun
  | [d1, d2, d3] => { results := [.lit (.bool true)], args := [d1, d2, d3] }
  | _ => none }
def objectWritesRow : OpenClaim := { program := "ythafiojejnhgeaa", sum := "7a5490d5822f388f9de9182cdffe9b3bebab292cb3efcee4434a5a9602938bb7", func := "protean/proteanlaw07.ObjectWrites", spec := "objectWrites", inPlace := ["internal/bytealg.abigen_runtime_cmpstring", "slices.overlaps[protean/api.Field]"], unfollowed := true, recurses := true, apart := false }
def ObjectWritesSaid : Prop := objectWritesRow.holds Try.pinned (OpenSpec.ofChange objectWritesSpec)

/-- ITS FALSE NEIGHBOUR: 'it returns false'. Refute it at one input. -/
def objectWritesWrong : ChangeSpec := { name := "objectWrites", fn := fun _ => fun
  | [d1, d2, d3] => { results := [.lit (.bool false)], args := [d1, d2, d3] }
  | _ => none }
def ObjectWritesWrongFalsely : Prop := objectWritesRow.holds Try.pinned (OpenSpec.ofChange objectWritesWrong)

/-- 'proteanlaw07.ObjectRenamed': WHATEVER THE INPUT: true; the input reads as it did. -/
def objectRenamedSpec : ChangeSpec := { name := "objectRenamed", fn := fun _ => fun
  | [d1, d2, d3] => { results := [.lit (.bool true)], args := [d1, d2, d3] }
  | _ => none }
def objectRenamedRow : OpenClaim := { program := "ythafiojejnhgeaa", sum := "7a5490d5822f388f9de9182cdffe9b3bebab292cb3efcee4434a5a9602938bb7", func := "protean/proteanlaw07.ObjectRenamed", spec := "objectRenamed", inPlace := ["internal/bytealg.abigen_runtime_cmpstring", "slices.overlaps[protean/api.Field]"], unfollowed := true, recurses := true, apart := false }
def ObjectRenamedSaid : Prop := objectRenamedRow.holds Try.pinned (OpenSpec.ofChange objectRenamedSpec)

/-- ITS FALSE NEIGHBOUR: 'it returns false'. Refute it at one input. -/
def objectRenamedWrong : ChangeSpec := { name := "objectRenamed", fn := fun _ => fun
  | [d1, d2, d3] => { results := [.lit (.bool false)], args := [d1, d2, d3] }
  | _ => none }
def ObjectRenamedWrongFalsely : Prop := objectRenamedRow.holds Try.pinned (OpenSpec.ofChange objectRenamedWrong)

/-- 'proteanlaw11.UpdateTells': WHATEVER THE INPUT: true; the input reads as it did. -/
def updateTellsSpec : ChangeSpec := { name := "updateTells", fn := fun _ => fun
  | [d1, d2, d3] => { results := [.lit (.bool true)], args := [d1, d2, d3] }
  | _ => none }
def updateTellsRow : OpenClaim := { program := "ythafiojejnhgeaa", sum := "7a5490d5822f388f9de9182cdffe9b3bebab292cb3efcee4434a5a9602938bb7", func := "protean/proteanlaw11.UpdateTells", spec := "updateTells", inPlace := ["internal/bytealg.abigen_runtime_cmpstring", "slices.overlaps[protean/api.Field]"], unfollowed := true, recurses := true, apart := false }
def UpdateTellsSaid : Prop := updateTellsRow.holds Try.pinned (OpenSpec.ofChange updateTellsSpec)

/-- ITS FALSE NEIGHBOUR: 'it returns false'. Refute it at one input. -/
def updateTellsWrong : ChangeSpec := { name := "updateTells", fn := fun _ => fun
  | [d1, d2, d3] => { results := [.lit (.bool false)], args := [d1, d2, d3] }
  | _ => none }
def UpdateTellsWrongFalsely : Prop := updateTellsRow.holds Try.pinned (OpenSpec.ofChange updateTellsWrong)

/-- 'proteanlaw11.UpdateRises': WHATEVER THE INPUT: true; the input reads as it did. -/
def updateRisesSpec : ChangeSpec := { name := "updateRises", fn := fun _ => fun
  | [d] => { results := [.lit (.bool true)], args := [d] }
  | _ => none }
def updateRisesRow : OpenClaim := { program := "ythafiojejnhgeaa", sum := "7a5490d5822f388f9de9182cdffe9b3bebab292cb3efcee4434a5a9602938bb7", func := "protean/proteanlaw11.UpdateRises", spec := "updateRises", inPlace := ["internal/bytealg.abigen_runtime_cmpstring", "slices.overlaps[protean/api.Field]"], unfollowed := true, recurses := true, apart := false }
def UpdateRisesSaid : Prop := updateRisesRow.holds Try.pinned (OpenSpec.ofChange updateRisesSpec)

/-- ITS FALSE NEIGHBOUR: 'it returns false'. Refute it at one input. -/
def updateRisesWrong : ChangeSpec := { name := "updateRises", fn := fun _ => fun
  | [d] => { results := [.lit (.bool false)], args := [d] }
  | _ => none }
def UpdateRisesWrongFalsely : Prop := updateRisesRow.holds Try.pinned (OpenSpec.ofChange updateRisesWrong)

/-- 'proteanlaw11.UpdateApart': WHATEVER THE INPUT: true; the input reads as it did. -/
def updateApartSpec : ChangeSpec := { name := "updateApart", fn := fun _ => fun
  | [d1, d2, d3] => { results := [.lit (.bool true)], args := [d1, d2, d3] }
  | _ => none }
def updateApartRow : OpenClaim := { program := "ythafiojejnhgeaa", sum := "7a5490d5822f388f9de9182cdffe9b3bebab292cb3efcee4434a5a9602938bb7", func := "protean/proteanlaw11.UpdateApart", spec := "updateApart", inPlace := ["internal/bytealg.abigen_runtime_cmpstring", "slices.overlaps[protean/api.Field]"], unfollowed := true, recurses := true, apart := false }
def UpdateApartSaid : Prop := updateApartRow.holds Try.pinned (OpenSpec.ofChange updateApartSpec)

/-- ITS FALSE NEIGHBOUR: 'it returns false'. Refute it at one input. -/
def updateApartWrong : ChangeSpec := { name := "updateApart", fn := fun _ => fun
  | [d1, d2, d3] => { results := [.lit (.bool false)], args := [d1, d2, d3] }
  | _ => none }
def UpdateApartWrongFalsely : Prop := updateApartRow.holds Try.pinned (OpenSpec.ofChange updateApartWrong)

/-- 'proteanlaw11.UpdateHavoc': WHATEVER THE INPUT: true; the input reads as it did. -/
def updateHavocSpec : ChangeSpec := { name := "updateHavoc", fn := fun _ => fun
  | [d1, d2, d3] => { results := [.lit (.bool true)], args := [d1, d2, d3] }
  | _ => none }
def updateHavocRow : OpenClaim := { program := "ythafiojejnhgeaa", sum := "7a5490d5822f388f9de9182cdffe9b3bebab292cb3efcee4434a5a9602938bb7", func := "protean/proteanlaw11.UpdateHavoc", spec := "updateHavoc", inPlace := ["internal/bytealg.abigen_runtime_cmpstring", "slices.overlaps[protean/api.Field]"], unfollowed := true, recurses := true, apart := false }
def UpdateHavocSaid : Prop := updateHavocRow.holds Try.pinned (OpenSpec.ofChange updateHavocSpec)

/-- ITS FALSE NEIGHBOUR: 'it returns false'. Refute it at one input. -/
def updateHavocWrong : ChangeSpec := { name := "updateHavoc", fn := fun _ => fun
  | [d1, d2, d3] => { results := [.lit (.bool false)], args := [d1, d2, d3] }
  | _ => none }
def UpdateHavocWrongFalsely : Prop := updateHavocRow.holds Try.pinned (OpenSpec.ofChange updateHavocWrong)

/-- 'proteanlaw11.UpdateTwice': WHATEVER THE INPUT: true; the input reads as it did. -/
def updateTwiceSpec : ChangeSpec := { name := "updateTwice", fn := fun _ => fun
  | [d1, d2, d3] => { results := [.lit (.bool true)], args := [d1, d2, d3] }
  | _ => none }
def updateTwiceRow : OpenClaim := { program := "ythafiojejnhgeaa", sum := "7a5490d5822f388f9de9182cdffe9b3bebab292cb3efcee4434a5a9602938bb7", func := "protean/proteanlaw11.UpdateTwice", spec := "updateTwice", inPlace := ["internal/bytealg.abigen_runtime_cmpstring", "slices.overlaps[protean/api.Field]"], unfollowed := true, recurses := true, apart := false }
def UpdateTwiceSaid : Prop := updateTwiceRow.holds Try.pinned (OpenSpec.ofChange updateTwiceSpec)

/-- ITS FALSE NEIGHBOUR: 'it returns false'. Refute it at one input. -/
def updateTwiceWrong : ChangeSpec := { name := "updateTwice", fn := fun _ => fun
  | [d1, d2, d3] => { results := [.lit (.bool false)], args := [d1, d2, d3] }
  | _ => none }
def UpdateTwiceWrongFalsely : Prop := updateTwiceRow.holds Try.pinned (OpenSpec.ofChange updateTwiceWrong)

/- THE SECOND FORM. 'bulk': how many values and letters a reading holds, each counted each time it is reached (what is shared counts as often as it is met; a slice's spare places count too). A statement '..UptoSaid' is the law's where the arguments, and the package variables that the reading takes, are together of bulk at most 1048576: NARROWER than '..Said'. Prove '..Said' where nothing that the law and all that it calls make is longer than what came in: it says more and counts as full. Else prove '..UptoSaid'. A law counts once. -/
mutual
def uptoBulk {H : Type} : DataW H → Nat
  | .lit (.string bytes) => bytes.length + 1
  | .lit _ => 1
  | .nil => 1
  | .ptr d => uptoBulk d + 1
  | .slice elems spare => uptoBulkAll elems + uptoBulkAll spare + 1
  | .agg parts => uptoBulkAll parts + 1
  | .iface _ d => uptoBulk d + 1
  | .map entries => uptoBulkEntries entries + 1
  | .held _ => 1
def uptoBulkAll {H : Type} : List (DataW H) → Nat
  | [] => 0
  | d :: r => uptoBulk d + uptoBulkAll r
def uptoBulkEntries {H : Type} : List (Lit × DataW H) → Nat
  | [] => 0
  | x :: r => uptoBulkEntry x + uptoBulkEntries r
def uptoBulkEntry {H : Type} : Lit × DataW H → Nat
  | (.string bytes, d) => bytes.length + uptoBulk d + 1
  | (_, d) => uptoBulk d + 1
 end
def uptoSmall : (H : Type) → List (DataW H) → Bool := fun _ ds => decide (uptoBulkAll ds ≤ 1048576)
def OpenSpec.upto (s : _root_.Go.ChangeSpec) : _root_.Go.OpenSpec := { _root_.Go.OpenSpec.ofChange s with cond := some uptoSmall }

/-- 'proteanlaw07.ObjectTells', WHERE WHAT IT READS IS OF BULK AT MOST 1048576: true; the input reads as it did. -/
def objectTellsUptoRow : OpenClaim := { program := "ythafiojejnhgeaa", sum := "7a5490d5822f388f9de9182cdffe9b3bebab292cb3efcee4434a5a9602938bb7", func := "protean/proteanlaw07.ObjectTells", spec := "objectTells", inPlace := ["internal/bytealg.abigen_runtime_cmpstring", "slices.overlaps[protean/api.Field]"], unfollowed := true, recurses := true, apart := false, narrowed := true }
def ObjectTellsUptoSaid : Prop := objectTellsUptoRow.holds Try.pinned (OpenSpec.upto objectTellsSpec)

/-- 'proteanlaw07.ObjectJoin', WHERE WHAT IT READS IS OF BULK AT MOST 1048576: true; the input reads as it did. -/
def objectJoinUptoRow : OpenClaim := { program := "ythafiojejnhgeaa", sum := "7a5490d5822f388f9de9182cdffe9b3bebab292cb3efcee4434a5a9602938bb7", func := "protean/proteanlaw07.ObjectJoin", spec := "objectJoin", inPlace := ["internal/bytealg.abigen_runtime_cmpstring", "slices.overlaps[protean/api.Field]"], unfollowed := true, recurses := true, apart := false, narrowed := true }
def ObjectJoinUptoSaid : Prop := objectJoinUptoRow.holds Try.pinned (OpenSpec.upto objectJoinSpec)

/-- 'proteanlaw07.ObjectWeaker', WHERE WHAT IT READS IS OF BULK AT MOST 1048576: true; the input reads as it did. -/
def objectWeakerUptoRow : OpenClaim := { program := "ythafiojejnhgeaa", sum := "7a5490d5822f388f9de9182cdffe9b3bebab292cb3efcee4434a5a9602938bb7", func := "protean/proteanlaw07.ObjectWeaker", spec := "objectWeaker", inPlace := ["internal/bytealg.abigen_runtime_cmpstring", "slices.overlaps[protean/api.Field]"], unfollowed := true, recurses := true, apart := false, narrowed := true }
def ObjectWeakerUptoSaid : Prop := objectWeakerUptoRow.holds Try.pinned (OpenSpec.upto objectWeakerSpec)

/-- 'proteanlaw07.ObjectJoined', WHERE WHAT IT READS IS OF BULK AT MOST 1048576: true; the input reads as it did. -/
def objectJoinedUptoRow : OpenClaim := { program := "ythafiojejnhgeaa", sum := "7a5490d5822f388f9de9182cdffe9b3bebab292cb3efcee4434a5a9602938bb7", func := "protean/proteanlaw07.ObjectJoined", spec := "objectJoined", inPlace := ["internal/bytealg.abigen_runtime_cmpstring", "slices.overlaps[protean/api.Field]"], unfollowed := true, recurses := true, apart := false, narrowed := true }
def ObjectJoinedUptoSaid : Prop := objectJoinedUptoRow.holds Try.pinned (OpenSpec.upto objectJoinedSpec)

/-- 'proteanlaw07.ObjectWrites', WHERE WHAT IT READS IS OF BULK AT MOST 1048576: true; the input reads as it did. -/
def objectWritesUptoRow : OpenClaim := { program := "ythafiojejnhgeaa", sum := "7a5490d5822f388f9de9182cdffe9b3bebab292cb3efcee4434a5a9602938bb7", func := "protean/proteanlaw07.ObjectWrites", spec := "objectWrites", inPlace := ["internal/bytealg.abigen_runtime_cmpstring", "slices.overlaps[protean/api.Field]"], unfollowed := true, recurses := true, apart := false, narrowed := true }
def ObjectWritesUptoSaid : Prop := objectWritesUptoRow.holds Try.pinned (OpenSpec.upto objectWritesSpec)

/-- 'proteanlaw07.ObjectRenamed', WHERE WHAT IT READS IS OF BULK AT MOST 1048576: true; the input reads as it did. -/
def objectRenamedUptoRow : OpenClaim := { program := "ythafiojejnhgeaa", sum := "7a5490d5822f388f9de9182cdffe9b3bebab292cb3efcee4434a5a9602938bb7", func := "protean/proteanlaw07.ObjectRenamed", spec := "objectRenamed", inPlace := ["internal/bytealg.abigen_runtime_cmpstring", "slices.overlaps[protean/api.Field]"], unfollowed := true, recurses := true, apart := false, narrowed := true }
def ObjectRenamedUptoSaid : Prop := objectRenamedUptoRow.holds Try.pinned (OpenSpec.upto objectRenamedSpec)

/-- 'proteanlaw11.UpdateTells', WHERE WHAT IT READS IS OF BULK AT MOST 1048576: true; the input reads as it did. -/
def updateTellsUptoRow : OpenClaim := { program := "ythafiojejnhgeaa", sum := "7a5490d5822f388f9de9182cdffe9b3bebab292cb3efcee4434a5a9602938bb7", func := "protean/proteanlaw11.UpdateTells", spec := "updateTells", inPlace := ["internal/bytealg.abigen_runtime_cmpstring", "slices.overlaps[protean/api.Field]"], unfollowed := true, recurses := true, apart := false, narrowed := true }
def UpdateTellsUptoSaid : Prop := updateTellsUptoRow.holds Try.pinned (OpenSpec.upto updateTellsSpec)

/-- 'proteanlaw11.UpdateRises', WHERE WHAT IT READS IS OF BULK AT MOST 1048576: true; the input reads as it did. -/
def updateRisesUptoRow : OpenClaim := { program := "ythafiojejnhgeaa", sum := "7a5490d5822f388f9de9182cdffe9b3bebab292cb3efcee4434a5a9602938bb7", func := "protean/proteanlaw11.UpdateRises", spec := "updateRises", inPlace := ["internal/bytealg.abigen_runtime_cmpstring", "slices.overlaps[protean/api.Field]"], unfollowed := true, recurses := true, apart := false, narrowed := true }
def UpdateRisesUptoSaid : Prop := updateRisesUptoRow.holds Try.pinned (OpenSpec.upto updateRisesSpec)

/-- 'proteanlaw11.UpdateApart', WHERE WHAT IT READS IS OF BULK AT MOST 1048576: true; the input reads as it did. -/
def updateApartUptoRow : OpenClaim := { program := "ythafiojejnhgeaa", sum := "7a5490d5822f388f9de9182cdffe9b3bebab292cb3efcee4434a5a9602938bb7", func := "protean/proteanlaw11.UpdateApart", spec := "updateApart", inPlace := ["internal/bytealg.abigen_runtime_cmpstring", "slices.overlaps[protean/api.Field]"], unfollowed := true, recurses := true, apart := false, narrowed := true }
def UpdateApartUptoSaid : Prop := updateApartUptoRow.holds Try.pinned (OpenSpec.upto updateApartSpec)

/-- 'proteanlaw11.UpdateHavoc', WHERE WHAT IT READS IS OF BULK AT MOST 1048576: true; the input reads as it did. -/
def updateHavocUptoRow : OpenClaim := { program := "ythafiojejnhgeaa", sum := "7a5490d5822f388f9de9182cdffe9b3bebab292cb3efcee4434a5a9602938bb7", func := "protean/proteanlaw11.UpdateHavoc", spec := "updateHavoc", inPlace := ["internal/bytealg.abigen_runtime_cmpstring", "slices.overlaps[protean/api.Field]"], unfollowed := true, recurses := true, apart := false, narrowed := true }
def UpdateHavocUptoSaid : Prop := updateHavocUptoRow.holds Try.pinned (OpenSpec.upto updateHavocSpec)

/-- 'proteanlaw11.UpdateTwice', WHERE WHAT IT READS IS OF BULK AT MOST 1048576: true; the input reads as it did. -/
def updateTwiceUptoRow : OpenClaim := { program := "ythafiojejnhgeaa", sum := "7a5490d5822f388f9de9182cdffe9b3bebab292cb3efcee4434a5a9602938bb7", func := "protean/proteanlaw11.UpdateTwice", spec := "updateTwice", inPlace := ["internal/bytealg.abigen_runtime_cmpstring", "slices.overlaps[protean/api.Field]"], unfollowed := true, recurses := true, apart := false, narrowed := true }
def UpdateTwiceUptoSaid : Prop := updateTwiceUptoRow.holds Try.pinned (OpenSpec.upto updateTwiceSpec)

end Rows
end Go.Proofs.Ythafiojejnhgeaa

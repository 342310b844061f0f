/-
  No cell of these rows narrows 'for every input' (looked for: loops, veiled, ifaces, maps, wideKeys, modest, calm, conditions, laid).
  DERIVED. THE GIVEN ROWS OF THIS SEAT. 5 by the template 'for every input the law returns true; each argument reads behind the call as it read before'; 0 by the template 'total and deterministic' (their statements: YtijheoafbhjcbaaTotals.lean).
  GIVEN WITH THE SEED: the statements are not yours to turn. If you find one false, say at which input.
  Laid BY PROGRAM, IN A SANDBOX (cutbox-rows.mjs): the forced cells as the released guide's own fill.sh prints them over the translation fbc3728ccb55a3d4… (all of the seat's roots in one cut). By AI agents, Wed Nov 11 2026. No macro, syntax, notation, axiom, sorry.
-/
import Derived.Test.YtijheoafbhjcbaaChecked
import GoSem.Claim
import GoSem.ClaimJoined
import GoSem.ClaimMapViews
import Derived.JoinedTies
import Derived.KernelRfl
namespace Go.Proofs.Ytijheoafbhjcbaa
/- THE CELL 'sum', in the pinned program and in every row, IS THE sha256 OF THE DUMP (.gsa) THAT YtijheoafbhjcbaaProg.lean LOADS. Nothing in Lean hashes anything: it is a label: what it is worth is what the hold of that sum in a sandbox is worth. -/
noncomputable def Try.pinned : Pinned := { name := "ytijheoafbhjcbaa", sum := "fbc3728ccb55a3d4fdf97b4fc408b0666afc5283ee2940029eac3e03827d21e1", checked := Try.checked }
namespace Rows
def none {H : Type} : Left H := { results := [], args := [] }

/-- 'proteanlaw10.LookupTells': WHATEVER THE INPUT: true; the input reads as it did. -/
def lookupTellsSpec : ChangeSpec := { name := "lookupTells", fn := fun _ => fun
  | [d1, d2, d3] => { results := [.lit (.bool true)], args := [d1, d2, d3] }
  | _ => none }
def lookupTellsRow : OpenClaim := { program := "ytijheoafbhjcbaa", sum := "fbc3728ccb55a3d4fdf97b4fc408b0666afc5283ee2940029eac3e03827d21e1", func := "protean/proteanlaw10.LookupTells", spec := "lookupTells", unfollowed := true, recurses := true, plainKeys := false, apart := false }
def LookupTellsSaid : Prop := lookupTellsRow.holds Try.pinned (OpenSpec.ofChange lookupTellsSpec)

/-- ITS FALSE NEIGHBOUR: 'it returns false'. Refute it at one input. -/
def lookupTellsWrong : ChangeSpec := { name := "lookupTells", fn := fun _ => fun
  | [d1, d2, d3] => { results := [.lit (.bool false)], args := [d1, d2, d3] }
  | _ => none }
def LookupTellsWrongFalsely : Prop := lookupTellsRow.holds Try.pinned (OpenSpec.ofChange lookupTellsWrong)

/-- 'proteanlaw10.LookupRises': WHATEVER THE INPUT: true; the input reads as it did. -/
def lookupRisesSpec : ChangeSpec := { name := "lookupRises", fn := fun _ => fun
  | [d1, d2, d3] => { results := [.lit (.bool true)], args := [d1, d2, d3] }
  | _ => none }
def lookupRisesRow : OpenClaim := { program := "ytijheoafbhjcbaa", sum := "fbc3728ccb55a3d4fdf97b4fc408b0666afc5283ee2940029eac3e03827d21e1", func := "protean/proteanlaw10.LookupRises", spec := "lookupRises", unfollowed := true, recurses := true, plainKeys := false, apart := false }
def LookupRisesSaid : Prop := lookupRisesRow.holds Try.pinned (OpenSpec.ofChange lookupRisesSpec)

/-- ITS FALSE NEIGHBOUR: 'it returns false'. Refute it at one input. -/
def lookupRisesWrong : ChangeSpec := { name := "lookupRises", fn := fun _ => fun
  | [d1, d2, d3] => { results := [.lit (.bool false)], args := [d1, d2, d3] }
  | _ => none }
def LookupRisesWrongFalsely : Prop := lookupRisesRow.holds Try.pinned (OpenSpec.ofChange lookupRisesWrong)

/-- 'proteanlaw10.LookupOwn': WHATEVER THE INPUT: true; the input reads as it did. -/
def lookupOwnSpec : ChangeSpec := { name := "lookupOwn", fn := fun _ => fun
  | [d1, d2, d3] => { results := [.lit (.bool true)], args := [d1, d2, d3] }
  | _ => none }
def lookupOwnRow : OpenClaim := { program := "ytijheoafbhjcbaa", sum := "fbc3728ccb55a3d4fdf97b4fc408b0666afc5283ee2940029eac3e03827d21e1", func := "protean/proteanlaw10.LookupOwn", spec := "lookupOwn", unfollowed := true, recurses := true, plainKeys := false, apart := false }
def LookupOwnSaid : Prop := lookupOwnRow.holds Try.pinned (OpenSpec.ofChange lookupOwnSpec)

/-- ITS FALSE NEIGHBOUR: 'it returns false'. Refute it at one input. -/
def lookupOwnWrong : ChangeSpec := { name := "lookupOwn", fn := fun _ => fun
  | [d1, d2, d3] => { results := [.lit (.bool false)], args := [d1, d2, d3] }
  | _ => none }
def LookupOwnWrongFalsely : Prop := lookupOwnRow.holds Try.pinned (OpenSpec.ofChange lookupOwnWrong)

/-- 'proteanlaw10.LookupClosed': WHATEVER THE INPUT: true; the input reads as it did. -/
def lookupClosedSpec : ChangeSpec := { name := "lookupClosed", fn := fun _ => fun
  | [d1, d2, d3] => { results := [.lit (.bool true)], args := [d1, d2, d3] }
  | _ => none }
def lookupClosedRow : OpenClaim := { program := "ytijheoafbhjcbaa", sum := "fbc3728ccb55a3d4fdf97b4fc408b0666afc5283ee2940029eac3e03827d21e1", func := "protean/proteanlaw10.LookupClosed", spec := "lookupClosed", unfollowed := true, recurses := true, plainKeys := false, apart := false }
def LookupClosedSaid : Prop := lookupClosedRow.holds Try.pinned (OpenSpec.ofChange lookupClosedSpec)

/-- ITS FALSE NEIGHBOUR: 'it returns false'. Refute it at one input. -/
def lookupClosedWrong : ChangeSpec := { name := "lookupClosed", fn := fun _ => fun
  | [d1, d2, d3] => { results := [.lit (.bool false)], args := [d1, d2, d3] }
  | _ => none }
def LookupClosedWrongFalsely : Prop := lookupClosedRow.holds Try.pinned (OpenSpec.ofChange lookupClosedWrong)

/-- 'proteanlaw10.LookupAny': WHATEVER THE INPUT: true; the input reads as it did. -/
def lookupAnySpec : ChangeSpec := { name := "lookupAny", fn := fun _ => fun
  | [d1, d2, d3] => { results := [.lit (.bool true)], args := [d1, d2, d3] }
  | _ => none }
def lookupAnyRow : OpenClaim := { program := "ytijheoafbhjcbaa", sum := "fbc3728ccb55a3d4fdf97b4fc408b0666afc5283ee2940029eac3e03827d21e1", func := "protean/proteanlaw10.LookupAny", spec := "lookupAny", unfollowed := true, recurses := true, plainKeys := false, apart := false }
def LookupAnySaid : Prop := lookupAnyRow.holds Try.pinned (OpenSpec.ofChange lookupAnySpec)

/-- ITS FALSE NEIGHBOUR: 'it returns false'. Refute it at one input. -/
def lookupAnyWrong : ChangeSpec := { name := "lookupAny", fn := fun _ => fun
  | [d1, d2, d3] => { results := [.lit (.bool false)], args := [d1, d2, d3] }
  | _ => none }
def LookupAnyWrongFalsely : Prop := lookupAnyRow.holds Try.pinned (OpenSpec.ofChange lookupAnyWrong)

/- THE SECOND FORM. 'bulk': how many values and letters a reading holds, each counted each time it is reached (what is shared counts as often as it is met; a slice's spare places count too). A statement '..UptoSaid' is the law's where the arguments, and the package variables that the reading takes, are together of bulk at most 1048576: NARROWER than '..Said'. Prove '..Said' where nothing that the law and all that it calls make is longer than what came in: it says more and counts as full. Else prove '..UptoSaid'. A law counts once. -/
mutual
def uptoBulk {H : Type} : DataW H → Nat
  | .lit (.string bytes) => bytes.length + 1
  | .lit _ => 1
  | .nil => 1
  | .ptr d => uptoBulk d + 1
  | .slice elems spare => uptoBulkAll elems + uptoBulkAll spare + 1
  | .agg parts => uptoBulkAll parts + 1
  | .iface _ d => uptoBulk d + 1
  | .map entries => uptoBulkEntries entries + 1
  | .held _ => 1
def uptoBulkAll {H : Type} : List (DataW H) → Nat
  | [] => 0
  | d :: r => uptoBulk d + uptoBulkAll r
def uptoBulkEntries {H : Type} : List (Lit × DataW H) → Nat
  | [] => 0
  | x :: r => uptoBulkEntry x + uptoBulkEntries r
def uptoBulkEntry {H : Type} : Lit × DataW H → Nat
  | (.string bytes, d) => bytes.length + uptoBulk d + 1
  | (_, d) => uptoBulk d + 1
 end
def uptoSmall : (H : Type) → List (DataW H) → Bool := fun _ ds => decide (uptoBulkAll ds ≤ 1048576)
def OpenSpec.upto (s : _root_.Go.ChangeSpec) : _root_.Go.OpenSpec := { _root_.Go.OpenSpec.ofChange s with cond := some uptoSmall }

/-- 'proteanlaw10.LookupTells', WHERE WHAT IT READS IS OF BULK AT MOST 1048576: true; the input reads as it did. -/
def lookupTellsUptoRow : OpenClaim := { program := "ytijheoafbhjcbaa", sum := "fbc3728ccb55a3d4fdf97b4fc408b0666afc5283ee2940029eac3e03827d21e1", func := "protean/proteanlaw10.LookupTells", spec := "lookupTells", unfollowed := true, recurses := true, plainKeys := false, apart := false, narrowed := true }
def LookupTellsUptoSaid : Prop := lookupTellsUptoRow.holds Try.pinned (OpenSpec.upto lookupTellsSpec)

/-- 'proteanlaw10.LookupRises', WHERE WHAT IT READS IS OF BULK AT MOST 1048576: true; the input reads as it did. -/
def lookupRisesUptoRow : OpenClaim := { program := "ytijheoafbhjcbaa", sum := "fbc3728ccb55a3d4fdf97b4fc408b0666afc5283ee2940029eac3e03827d21e1", func := "protean/proteanlaw10.LookupRises", spec := "lookupRises", unfollowed := true, recurses := true, plainKeys := false, apart := false, narrowed := true }
def LookupRisesUptoSaid : Prop := lookupRisesUptoRow.holds Try.pinned (OpenSpec.upto lookupRisesSpec)

/-- 'proteanlaw10.LookupOwn', WHERE WHAT IT READS IS OF BULK AT MOST 1048576: true; the input reads as it did. -/
def lookupOwnUptoRow : OpenClaim := { program := "ytijheoafbhjcbaa", sum := "fbc3728ccb55a3d4fdf97b4fc408b0666afc5283ee2940029eac3e03827d21e1", func := "protean/proteanlaw10.LookupOwn", spec := "lookupOwn", unfollowed := true, recurses := true, plainKeys := false, apart := false, narrowed := true }
def LookupOwnUptoSaid : Prop := lookupOwnUptoRow.holds Try.pinned (OpenSpec.upto lookupOwnSpec)

/-- 'proteanlaw10.LookupClosed', WHERE WHAT IT READS IS OF BULK AT MOST 1048576: true; the input reads as it did. -/
def lookupClosedUptoRow : OpenClaim := { program := "ytijheoafbhjcbaa", sum := "fbc3728ccb55a3d4fdf97b4fc408b0666afc5283ee2940029eac3e03827d21e1", func := "protean/proteanlaw10.LookupClosed", spec := "lookupClosed", unfollowed := true, recurses := true, plainKeys := false, apart := false, narrowed := true }
def LookupClosedUptoSaid : Prop := lookupClosedUptoRow.holds Try.pinned (OpenSpec.upto lookupClosedSpec)

/-- 'proteanlaw10.LookupAny', WHERE WHAT IT READS IS OF BULK AT MOST 1048576: true; the input reads as it did. -/
def lookupAnyUptoRow : OpenClaim := { program := "ytijheoafbhjcbaa", sum := "fbc3728ccb55a3d4fdf97b4fc408b0666afc5283ee2940029eac3e03827d21e1", func := "protean/proteanlaw10.LookupAny", spec := "lookupAny", unfollowed := true, recurses := true, plainKeys := false, apart := false, narrowed := true }
def LookupAnyUptoSaid : Prop := lookupAnyUptoRow.holds Try.pinned (OpenSpec.upto lookupAnySpec)

end Rows
end Go.Proofs.Ytijheoafbhjcbaa

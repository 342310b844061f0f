/-
  No cell of these rows narrows 'for every input' (looked for: loops, veiled, ifaces, maps, wideKeys, modest, calm, conditions, laid).
  DERIVED. THE GIVEN ROWS OF THIS SEAT. 5 by the template 'for every input the law returns true; each argument reads behind the call as it read before'; 0 by the template 'total and deterministic' (their statements: YteajfebkgabndaaGreatTotals.lean).
  GIVEN WITH THE SEED: the statements are not yours to turn. If you find one false, say at which input.
  Laid BY PROGRAM, IN A SANDBOX (cutbox-rows.mjs): the forced cells as the released guide's own fill.sh prints them over the translation 5a355878b011b511… (all of the seat's roots in one cut). By AI agents, Wed Nov 11 2026. No macro, syntax, notation, axiom, sorry.
-/
import Derived.Test.YteajfebkgabndaaGreatChecked
import GoSem.Claim
import GoSem.ClaimJoined
import GoSem.ClaimMapViews
import Derived.JoinedTies
import Derived.KernelRfl
namespace Go.Proofs.YteajfebkgabndaaGreat
/- THE CELL 'sum', in the pinned program and in every row, IS THE sha256 OF THE DUMP (.gsa) THAT YteajfebkgabndaaGreatProg.lean LOADS. Nothing in Lean hashes anything: it is a label: what it is worth is what the hold of that sum in a sandbox is worth. -/
noncomputable def Tryz.pinned : Pinned := { name := "yteajfebkgabndaagreat", sum := "5a355878b011b511f04ffdafea1cad20b7d5e0543677a5d259d60bd9a58564fa", checked := Tryz.checked }
namespace Rows
def none {H : Type} : Left H := { results := [], args := [] }

/-- 'proteanlaw09.DemoteTells': WHATEVER THE INPUT: true; the input reads as it did. -/
def demoteTellsSpec : ChangeSpec := { name := "demoteTells", fn := fun _ => fun
  | [d1, d2, d3] => { results := [.lit (.bool true)], args := [d1, d2, d3] }
  | _ => none }
def demoteTellsRow : OpenClaim := { program := "yteajfebkgabndaagreat", sum := "5a355878b011b511f04ffdafea1cad20b7d5e0543677a5d259d60bd9a58564fa", func := "protean/proteanlaw09.DemoteTells", spec := "demoteTells", inPlace := ["slices.overlaps[protean/api.Bind]", "internal/bytealg.abigen_runtime_cmpstring", "slices.overlaps[protean/api.Field]", "slices.overlaps[protean/api.Loc]"], unfollowed := true, recurses := true, apart := false }
def DemoteTellsSaid : Prop := demoteTellsRow.holds Tryz.pinned (OpenSpec.ofChange demoteTellsSpec)

/-- ITS FALSE NEIGHBOUR: 'it returns false'. Refute it at one input. -/
def demoteTellsWrong : ChangeSpec := { name := "demoteTells", fn := fun _ => fun
  | [d1, d2, d3] => { results := [.lit (.bool false)], args := [d1, d2, d3] }
  | _ => none }
def DemoteTellsWrongFalsely : Prop := demoteTellsRow.holds Tryz.pinned (OpenSpec.ofChange demoteTellsWrong)

/-- 'proteanlaw09.DemoteForgets': WHATEVER THE INPUT: true; the input reads as it did. -/
def demoteForgetsSpec : ChangeSpec := { name := "demoteForgets", fn := fun _ => fun
  | [d1, d2, d3] => { results := [.lit (.bool true)], args := [d1, d2, d3] }
  | _ => none }
def demoteForgetsRow : OpenClaim := { program := "yteajfebkgabndaagreat", sum := "5a355878b011b511f04ffdafea1cad20b7d5e0543677a5d259d60bd9a58564fa", func := "protean/proteanlaw09.DemoteForgets", spec := "demoteForgets", inPlace := ["slices.overlaps[protean/api.Bind]", "internal/bytealg.abigen_runtime_cmpstring", "slices.overlaps[protean/api.Field]", "slices.overlaps[protean/api.Loc]"], unfollowed := true, recurses := true, apart := false }
def DemoteForgetsSaid : Prop := demoteForgetsRow.holds Tryz.pinned (OpenSpec.ofChange demoteForgetsSpec)

/-- ITS FALSE NEIGHBOUR: 'it returns false'. Refute it at one input. -/
def demoteForgetsWrong : ChangeSpec := { name := "demoteForgets", fn := fun _ => fun
  | [d1, d2, d3] => { results := [.lit (.bool false)], args := [d1, d2, d3] }
  | _ => none }
def DemoteForgetsWrongFalsely : Prop := demoteForgetsRow.holds Tryz.pinned (OpenSpec.ofChange demoteForgetsWrong)

/-- 'proteanlaw09.DemoteKeeps': WHATEVER THE INPUT: true; the input reads as it did. -/
def demoteKeepsSpec : ChangeSpec := { name := "demoteKeeps", fn := fun _ => fun
  | [d1, d2, d3] => { results := [.lit (.bool true)], args := [d1, d2, d3] }
  | _ => none }
def demoteKeepsRow : OpenClaim := { program := "yteajfebkgabndaagreat", sum := "5a355878b011b511f04ffdafea1cad20b7d5e0543677a5d259d60bd9a58564fa", func := "protean/proteanlaw09.DemoteKeeps", spec := "demoteKeeps", inPlace := ["slices.overlaps[protean/api.Bind]", "internal/bytealg.abigen_runtime_cmpstring", "slices.overlaps[protean/api.Field]", "slices.overlaps[protean/api.Loc]"], unfollowed := true, recurses := true, apart := false }
def DemoteKeepsSaid : Prop := demoteKeepsRow.holds Tryz.pinned (OpenSpec.ofChange demoteKeepsSpec)

/-- ITS FALSE NEIGHBOUR: 'it returns false'. Refute it at one input. -/
def demoteKeepsWrong : ChangeSpec := { name := "demoteKeeps", fn := fun _ => fun
  | [d1, d2, d3] => { results := [.lit (.bool false)], args := [d1, d2, d3] }
  | _ => none }
def DemoteKeepsWrongFalsely : Prop := demoteKeepsRow.holds Tryz.pinned (OpenSpec.ofChange demoteKeepsWrong)

/-- 'proteanlaw09.DemoteOthers': WHATEVER THE INPUT: true; the input reads as it did. -/
def demoteOthersSpec : ChangeSpec := { name := "demoteOthers", fn := fun _ => fun
  | [d1, d2] => { results := [.lit (.bool true)], args := [d1, d2] }
  | _ => none }
def demoteOthersRow : OpenClaim := { program := "yteajfebkgabndaagreat", sum := "5a355878b011b511f04ffdafea1cad20b7d5e0543677a5d259d60bd9a58564fa", func := "protean/proteanlaw09.DemoteOthers", spec := "demoteOthers", inPlace := ["slices.overlaps[protean/api.Bind]", "internal/bytealg.abigen_runtime_cmpstring", "slices.overlaps[protean/api.Field]", "slices.overlaps[protean/api.Loc]"], unfollowed := true, recurses := true, apart := false }
def DemoteOthersSaid : Prop := demoteOthersRow.holds Tryz.pinned (OpenSpec.ofChange demoteOthersSpec)

/-- ITS FALSE NEIGHBOUR: 'it returns false'. Refute it at one input. -/
def demoteOthersWrong : ChangeSpec := { name := "demoteOthers", fn := fun _ => fun
  | [d1, d2] => { results := [.lit (.bool false)], args := [d1, d2] }
  | _ => none }
def DemoteOthersWrongFalsely : Prop := demoteOthersRow.holds Tryz.pinned (OpenSpec.ofChange demoteOthersWrong)

/-- 'proteanlaw09.DemoteTurns': WHATEVER THE INPUT: true; the input reads as it did. -/
def demoteTurnsSpec : ChangeSpec := { name := "demoteTurns", fn := fun _ => fun
  | [d1, d2, d3] => { results := [.lit (.bool true)], args := [d1, d2, d3] }
  | _ => none }
def demoteTurnsRow : OpenClaim := { program := "yteajfebkgabndaagreat", sum := "5a355878b011b511f04ffdafea1cad20b7d5e0543677a5d259d60bd9a58564fa", func := "protean/proteanlaw09.DemoteTurns", spec := "demoteTurns", inPlace := ["slices.overlaps[protean/api.Bind]", "internal/bytealg.abigen_runtime_cmpstring", "slices.overlaps[protean/api.Field]", "slices.overlaps[protean/api.Loc]"], unfollowed := true, recurses := true, apart := false }
def DemoteTurnsSaid : Prop := demoteTurnsRow.holds Tryz.pinned (OpenSpec.ofChange demoteTurnsSpec)

/-- ITS FALSE NEIGHBOUR: 'it returns false'. Refute it at one input. -/
def demoteTurnsWrong : ChangeSpec := { name := "demoteTurns", fn := fun _ => fun
  | [d1, d2, d3] => { results := [.lit (.bool false)], args := [d1, d2, d3] }
  | _ => none }
def DemoteTurnsWrongFalsely : Prop := demoteTurnsRow.holds Tryz.pinned (OpenSpec.ofChange demoteTurnsWrong)

/- THE SECOND FORM. 'bulk': how many values and letters a reading holds, each counted each time it is reached (what is shared counts as often as it is met; a slice's spare places count too). A statement '..UptoSaid' is the law's where the arguments, and the package variables that the reading takes, are together of bulk at most 1048576: NARROWER than '..Said'. Prove '..Said' where nothing that the law and all that it calls make is longer than what came in: it says more and counts as full. Else prove '..UptoSaid'. A law counts once. -/
mutual
def uptoBulk {H : Type} : DataW H → Nat
  | .lit (.string bytes) => bytes.length + 1
  | .lit _ => 1
  | .nil => 1
  | .ptr d => uptoBulk d + 1
  | .slice elems spare => uptoBulkAll elems + uptoBulkAll spare + 1
  | .agg parts => uptoBulkAll parts + 1
  | .iface _ d => uptoBulk d + 1
  | .map entries => uptoBulkEntries entries + 1
  | .held _ => 1
def uptoBulkAll {H : Type} : List (DataW H) → Nat
  | [] => 0
  | d :: r => uptoBulk d + uptoBulkAll r
def uptoBulkEntries {H : Type} : List (Lit × DataW H) → Nat
  | [] => 0
  | x :: r => uptoBulkEntry x + uptoBulkEntries r
def uptoBulkEntry {H : Type} : Lit × DataW H → Nat
  | (.string bytes, d) => bytes.length + uptoBulk d + 1
  | (_, d) => uptoBulk d + 1
 end
def uptoSmall : (H : Type) → List (DataW H) → Bool := fun _ ds => decide (uptoBulkAll ds ≤ 1048576)
def OpenSpec.upto (s : _root_.Go.ChangeSpec) : _root_.Go.OpenSpec := { _root_.Go.OpenSpec.ofChange s with cond := some uptoSmall }

/-- 'proteanlaw09.DemoteTells', WHERE WHAT IT READS IS OF BULK AT MOST 1048576: true; the input reads as it did. -/
def demoteTellsUptoRow : OpenClaim := { program := "yteajfebkgabndaagreat", sum := "5a355878b011b511f04ffdafea1cad20b7d5e0543677a5d259d60bd9a58564fa", func := "protean/proteanlaw09.DemoteTells", spec := "demoteTells", inPlace := ["slices.overlaps[protean/api.Bind]", "internal/bytealg.abigen_runtime_cmpstring", "slices.overlaps[protean/api.Field]", "slices.overlaps[protean/api.Loc]"], unfollowed := true, recurses := true, apart := false, narrowed := true }
def DemoteTellsUptoSaid : Prop := demoteTellsUptoRow.holds Tryz.pinned (OpenSpec.upto demoteTellsSpec)

/-- 'proteanlaw09.DemoteForgets', WHERE WHAT IT READS IS OF BULK AT MOST 1048576: true; the input reads as it did. -/
def demoteForgetsUptoRow : OpenClaim := { program := "yteajfebkgabndaagreat", sum := "5a355878b011b511f04ffdafea1cad20b7d5e0543677a5d259d60bd9a58564fa", func := "protean/proteanlaw09.DemoteForgets", spec := "demoteForgets", inPlace := ["slices.overlaps[protean/api.Bind]", "internal/bytealg.abigen_runtime_cmpstring", "slices.overlaps[protean/api.Field]", "slices.overlaps[protean/api.Loc]"], unfollowed := true, recurses := true, apart := false, narrowed := true }
def DemoteForgetsUptoSaid : Prop := demoteForgetsUptoRow.holds Tryz.pinned (OpenSpec.upto demoteForgetsSpec)

/-- 'proteanlaw09.DemoteKeeps', WHERE WHAT IT READS IS OF BULK AT MOST 1048576: true; the input reads as it did. -/
def demoteKeepsUptoRow : OpenClaim := { program := "yteajfebkgabndaagreat", sum := "5a355878b011b511f04ffdafea1cad20b7d5e0543677a5d259d60bd9a58564fa", func := "protean/proteanlaw09.DemoteKeeps", spec := "demoteKeeps", inPlace := ["slices.overlaps[protean/api.Bind]", "internal/bytealg.abigen_runtime_cmpstring", "slices.overlaps[protean/api.Field]", "slices.overlaps[protean/api.Loc]"], unfollowed := true, recurses := true, apart := false, narrowed := true }
def DemoteKeepsUptoSaid : Prop := demoteKeepsUptoRow.holds Tryz.pinned (OpenSpec.upto demoteKeepsSpec)

/-- 'proteanlaw09.DemoteOthers', WHERE WHAT IT READS IS OF BULK AT MOST 1048576: true; the input reads as it did. -/
def demoteOthersUptoRow : OpenClaim := { program := "yteajfebkgabndaagreat", sum := "5a355878b011b511f04ffdafea1cad20b7d5e0543677a5d259d60bd9a58564fa", func := "protean/proteanlaw09.DemoteOthers", spec := "demoteOthers", inPlace := ["slices.overlaps[protean/api.Bind]", "internal/bytealg.abigen_runtime_cmpstring", "slices.overlaps[protean/api.Field]", "slices.overlaps[protean/api.Loc]"], unfollowed := true, recurses := true, apart := false, narrowed := true }
def DemoteOthersUptoSaid : Prop := demoteOthersUptoRow.holds Tryz.pinned (OpenSpec.upto demoteOthersSpec)

/-- 'proteanlaw09.DemoteTurns', WHERE WHAT IT READS IS OF BULK AT MOST 1048576: true; the input reads as it did. -/
def demoteTurnsUptoRow : OpenClaim := { program := "yteajfebkgabndaagreat", sum := "5a355878b011b511f04ffdafea1cad20b7d5e0543677a5d259d60bd9a58564fa", func := "protean/proteanlaw09.DemoteTurns", spec := "demoteTurns", inPlace := ["slices.overlaps[protean/api.Bind]", "internal/bytealg.abigen_runtime_cmpstring", "slices.overlaps[protean/api.Field]", "slices.overlaps[protean/api.Loc]"], unfollowed := true, recurses := true, apart := false, narrowed := true }
def DemoteTurnsUptoSaid : Prop := demoteTurnsUptoRow.holds Tryz.pinned (OpenSpec.upto demoteTurnsSpec)

end Rows
end Go.Proofs.YteajfebkgabndaaGreat

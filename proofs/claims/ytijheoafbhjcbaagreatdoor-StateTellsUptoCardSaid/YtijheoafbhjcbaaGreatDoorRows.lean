/-
  NARROWER THAN 'FOR EVERY INPUT', by the rows' own cells (each row's printed sentence says how): StateTells: laid · StateSets: laid · StateJoin: laid · StateOrder: laid · StateApart: laid · StateJoined: laid.
  DERIVED. THE GIVEN ROWS OF THIS SEAT. 6 by the template 'for every input the law returns true; each argument reads behind the call as it read before'; 0 by the template 'total and deterministic' (their statements: YtijheoafbhjcbaaGreatDoorTotals.lean).
  GIVEN WITH THE SEED: the statements are not yours to turn. If you find one false, say at which input.
  Laid BY PROGRAM, IN A SANDBOX (cutbox-rows.mjs): the forced cells as the released guide's own fill.sh prints them over the translation 8bd5025cee0aaf40… (all of the seat's roots in one cut). By AI agents, Wed Nov 11 2026. No macro, syntax, notation, axiom, sorry.
-/
import Derived.Test.YtijheoafbhjcbaaGreatDoorChecked
import GoSem.Claim
import GoSem.ClaimJoined
import GoSem.ClaimMapViews
import Derived.JoinedTies
import Derived.KernelRfl
namespace Go.Proofs.YtijheoafbhjcbaaGreatDoor
/- THE CELL 'sum', in the pinned program and in every row, IS THE sha256 OF THE DUMP (.gsa) THAT YtijheoafbhjcbaaGreatDoorProg.lean LOADS. Nothing in Lean hashes anything: it is a label: what it is worth is what the hold of that sum in a sandbox is worth. -/
noncomputable def Tryz.pinned : Pinned := { name := "ytijheoafbhjcbaagreatdoor", sum := "8bd5025cee0aaf408a49eda17e79d742e439c98e5d5ff6bc4a054e67ee9b7671", checked := Tryz.checked }
namespace Rows
def none {H : Type} : Left H := { results := [], args := [] }

/- WHAT THE LISTED PACKAGE-LEVEL VARIABLES READ AS WHEN THE CALL BEGINS. Each datum BY PROGRAM (the guide's laid-datum.mjs) off the statement by which the dump's own 'gosem.cut.vars' lays the variable. In a bare row this is a premise. The card (YtijheoafbhjcbaaGreatDoorCards.lean) ties it to the program's text. -/
def laid_math_bits_deBruijn32tab {H : Type} : DataW H := .agg [.lit (.int .u8 0), .lit (.int .u8 1), .lit (.int .u8 28), .lit (.int .u8 2), .lit (.int .u8 29), .lit (.int .u8 14), .lit (.int .u8 24), .lit (.int .u8 3), .lit (.int .u8 30), .lit (.int .u8 22), .lit (.int .u8 20), .lit (.int .u8 15), .lit (.int .u8 25), .lit (.int .u8 17), .lit (.int .u8 4), .lit (.int .u8 8), .lit (.int .u8 31), .lit (.int .u8 27), .lit (.int .u8 13), .lit (.int .u8 23), .lit (.int .u8 21), .lit (.int .u8 19), .lit (.int .u8 16), .lit (.int .u8 7), .lit (.int .u8 26), .lit (.int .u8 12), .lit (.int .u8 18), .lit (.int .u8 6), .lit (.int .u8 11), .lit (.int .u8 5), .lit (.int .u8 10), .lit (.int .u8 9)]
def laid_math_bits_deBruijn64tab {H : Type} : DataW H := .agg [.lit (.int .u8 0), .lit (.int .u8 1), .lit (.int .u8 56), .lit (.int .u8 2), .lit (.int .u8 57), .lit (.int .u8 49), .lit (.int .u8 28), .lit (.int .u8 3), .lit (.int .u8 61), .lit (.int .u8 58), .lit (.int .u8 42), .lit (.int .u8 50), .lit (.int .u8 38), .lit (.int .u8 29), .lit (.int .u8 17), .lit (.int .u8 4), .lit (.int .u8 62), .lit (.int .u8 47), .lit (.int .u8 59), .lit (.int .u8 36), .lit (.int .u8 45), .lit (.int .u8 43), .lit (.int .u8 51), .lit (.int .u8 22), .lit (.int .u8 53), .lit (.int .u8 39), .lit (.int .u8 33), .lit (.int .u8 30), .lit (.int .u8 24), .lit (.int .u8 18), .lit (.int .u8 12), .lit (.int .u8 5), .lit (.int .u8 63), .lit (.int .u8 55), .lit (.int .u8 48), .lit (.int .u8 27), .lit (.int .u8 60), .lit (.int .u8 41), .lit (.int .u8 37), .lit (.int .u8 16), .lit (.int .u8 46), .lit (.int .u8 35), .lit (.int .u8 44), .lit (.int .u8 21), .lit (.int .u8 52), .lit (.int .u8 32), .lit (.int .u8 23), .lit (.int .u8 11), .lit (.int .u8 54), .lit (.int .u8 26), .lit (.int .u8 40), .lit (.int .u8 15), .lit (.int .u8 34), .lit (.int .u8 20), .lit (.int .u8 31), .lit (.int .u8 10), .lit (.int .u8 25), .lit (.int .u8 14), .lit (.int .u8 19), .lit (.int .u8 9), .lit (.int .u8 13), .lit (.int .u8 8), .lit (.int .u8 7), .lit (.int .u8 6)]
def laid_internal_strconv_uint64pow10 {H : Type} : DataW H := .agg [.lit (.int .u64 1), .lit (.int .u64 10), .lit (.int .u64 100), .lit (.int .u64 1000), .lit (.int .u64 10000), .lit (.int .u64 100000), .lit (.int .u64 1000000), .lit (.int .u64 10000000), .lit (.int .u64 100000000), .lit (.int .u64 1000000000), .lit (.int .u64 10000000000), .lit (.int .u64 100000000000), .lit (.int .u64 1000000000000), .lit (.int .u64 10000000000000), .lit (.int .u64 100000000000000), .lit (.int .u64 1000000000000000), .lit (.int .u64 10000000000000000), .lit (.int .u64 100000000000000000), .lit (.int .u64 1000000000000000000), .lit (.int .u64 10000000000000000000)]

/-- 'proteanlaw08.StateTells': WHATEVER THE INPUT: true; the input reads as it did. -/
def stateTellsSpec : ChangeSpec := { name := "stateTells", fn := fun _ => fun
  | [d1, d2, d3] => { results := [.lit (.bool true)], args := [d1, d2, d3] }
  | _ => none }
def stateTellsRow : OpenClaim := { program := "ytijheoafbhjcbaagreatdoor", sum := "8bd5025cee0aaf408a49eda17e79d742e439c98e5d5ff6bc4a054e67ee9b7671", func := "protean/proteanlaw08.StateTells", spec := "stateTells", inPlace := ["slices.overlaps[protean/api.Bind]", "internal/bytealg.abigen_runtime_cmpstring", "slices.overlaps[protean/api.Field]", "slices.overlaps[protean/api.Loc]", "internal/abi.NoEscape", "internal/bytealg.MakeNoZero"], unfollowed := true, recurses := true, named := ["internal/strconv.uint64pow10", "math/bits.deBruijn32tab", "math/bits.deBruijn64tab"], apart := false, laid := [("math/bits.deBruijn32tab", laid_math_bits_deBruijn32tab), ("math/bits.deBruijn64tab", laid_math_bits_deBruijn64tab), ("internal/strconv.uint64pow10", laid_internal_strconv_uint64pow10)] }
def StateTellsSaid : Prop := stateTellsRow.holds Tryz.pinned (OpenSpec.ofChange stateTellsSpec)

/-- ITS FALSE NEIGHBOUR: 'it returns false'. Refute it at one input. -/
def stateTellsWrong : ChangeSpec := { name := "stateTells", fn := fun _ => fun
  | [d1, d2, d3] => { results := [.lit (.bool false)], args := [d1, d2, d3] }
  | _ => none }
def StateTellsWrongFalsely : Prop := stateTellsRow.holds Tryz.pinned (OpenSpec.ofChange stateTellsWrong)

/-- 'proteanlaw08.StateSets': WHATEVER THE INPUT: true; the input reads as it did. -/
def stateSetsSpec : ChangeSpec := { name := "stateSets", fn := fun _ => fun
  | [d1, d2, d3] => { results := [.lit (.bool true)], args := [d1, d2, d3] }
  | _ => none }
def stateSetsRow : OpenClaim := { program := "ytijheoafbhjcbaagreatdoor", sum := "8bd5025cee0aaf408a49eda17e79d742e439c98e5d5ff6bc4a054e67ee9b7671", func := "protean/proteanlaw08.StateSets", spec := "stateSets", inPlace := ["slices.overlaps[protean/api.Bind]", "internal/bytealg.abigen_runtime_cmpstring", "slices.overlaps[protean/api.Field]", "slices.overlaps[protean/api.Loc]", "internal/abi.NoEscape", "internal/bytealg.MakeNoZero"], unfollowed := true, recurses := true, named := ["internal/strconv.uint64pow10", "math/bits.deBruijn32tab", "math/bits.deBruijn64tab"], apart := false, laid := [("math/bits.deBruijn32tab", laid_math_bits_deBruijn32tab), ("math/bits.deBruijn64tab", laid_math_bits_deBruijn64tab), ("internal/strconv.uint64pow10", laid_internal_strconv_uint64pow10)] }
def StateSetsSaid : Prop := stateSetsRow.holds Tryz.pinned (OpenSpec.ofChange stateSetsSpec)

/-- ITS FALSE NEIGHBOUR: 'it returns false'. Refute it at one input. -/
def stateSetsWrong : ChangeSpec := { name := "stateSets", fn := fun _ => fun
  | [d1, d2, d3] => { results := [.lit (.bool false)], args := [d1, d2, d3] }
  | _ => none }
def StateSetsWrongFalsely : Prop := stateSetsRow.holds Tryz.pinned (OpenSpec.ofChange stateSetsWrong)

/-- 'proteanlaw08.StateJoin': WHATEVER THE INPUT: true; the input reads as it did. -/
def stateJoinSpec : ChangeSpec := { name := "stateJoin", fn := fun _ => fun
  | [d1, d2, d3] => { results := [.lit (.bool true)], args := [d1, d2, d3] }
  | _ => none }
def stateJoinRow : OpenClaim := { program := "ytijheoafbhjcbaagreatdoor", sum := "8bd5025cee0aaf408a49eda17e79d742e439c98e5d5ff6bc4a054e67ee9b7671", func := "protean/proteanlaw08.StateJoin", spec := "stateJoin", inPlace := ["slices.overlaps[protean/api.Bind]", "internal/bytealg.abigen_runtime_cmpstring", "slices.overlaps[protean/api.Field]", "slices.overlaps[protean/api.Loc]", "internal/abi.NoEscape", "internal/bytealg.MakeNoZero"], unfollowed := true, recurses := true, named := ["internal/strconv.uint64pow10", "math/bits.deBruijn32tab", "math/bits.deBruijn64tab"], apart := false, laid := [("math/bits.deBruijn32tab", laid_math_bits_deBruijn32tab), ("math/bits.deBruijn64tab", laid_math_bits_deBruijn64tab), ("internal/strconv.uint64pow10", laid_internal_strconv_uint64pow10)] }
def StateJoinSaid : Prop := stateJoinRow.holds Tryz.pinned (OpenSpec.ofChange stateJoinSpec)

/-- ITS FALSE NEIGHBOUR: 'it returns false'. Refute it at one input. -/
def stateJoinWrong : ChangeSpec := { name := "stateJoin", fn := fun _ => fun
  | [d1, d2, d3] => { results := [.lit (.bool false)], args := [d1, d2, d3] }
  | _ => none }
def StateJoinWrongFalsely : Prop := stateJoinRow.holds Tryz.pinned (OpenSpec.ofChange stateJoinWrong)

/-- 'proteanlaw08.StateOrder': WHATEVER THE INPUT: true; the input reads as it did. -/
def stateOrderSpec : ChangeSpec := { name := "stateOrder", fn := fun _ => fun
  | [d1, d2, d3] => { results := [.lit (.bool true)], args := [d1, d2, d3] }
  | _ => none }
def stateOrderRow : OpenClaim := { program := "ytijheoafbhjcbaagreatdoor", sum := "8bd5025cee0aaf408a49eda17e79d742e439c98e5d5ff6bc4a054e67ee9b7671", func := "protean/proteanlaw08.StateOrder", spec := "stateOrder", inPlace := ["slices.overlaps[protean/api.Bind]", "internal/bytealg.abigen_runtime_cmpstring", "slices.overlaps[protean/api.Field]", "slices.overlaps[protean/api.Loc]", "internal/abi.NoEscape", "internal/bytealg.MakeNoZero"], unfollowed := true, recurses := true, named := ["internal/strconv.uint64pow10", "math/bits.deBruijn32tab", "math/bits.deBruijn64tab"], apart := false, laid := [("math/bits.deBruijn32tab", laid_math_bits_deBruijn32tab), ("math/bits.deBruijn64tab", laid_math_bits_deBruijn64tab), ("internal/strconv.uint64pow10", laid_internal_strconv_uint64pow10)] }
def StateOrderSaid : Prop := stateOrderRow.holds Tryz.pinned (OpenSpec.ofChange stateOrderSpec)

/-- ITS FALSE NEIGHBOUR: 'it returns false'. Refute it at one input. -/
def stateOrderWrong : ChangeSpec := { name := "stateOrder", fn := fun _ => fun
  | [d1, d2, d3] => { results := [.lit (.bool false)], args := [d1, d2, d3] }
  | _ => none }
def StateOrderWrongFalsely : Prop := stateOrderRow.holds Tryz.pinned (OpenSpec.ofChange stateOrderWrong)

/-- 'proteanlaw08.StateApart': WHATEVER THE INPUT: true; the input reads as it did. -/
def stateApartSpec : ChangeSpec := { name := "stateApart", fn := fun _ => fun
  | [d1, d2, d3] => { results := [.lit (.bool true)], args := [d1, d2, d3] }
  | _ => none }
def stateApartRow : OpenClaim := { program := "ytijheoafbhjcbaagreatdoor", sum := "8bd5025cee0aaf408a49eda17e79d742e439c98e5d5ff6bc4a054e67ee9b7671", func := "protean/proteanlaw08.StateApart", spec := "stateApart", inPlace := ["slices.overlaps[protean/api.Bind]", "internal/bytealg.abigen_runtime_cmpstring", "slices.overlaps[protean/api.Field]", "slices.overlaps[protean/api.Loc]", "internal/abi.NoEscape", "internal/bytealg.MakeNoZero"], unfollowed := true, recurses := true, named := ["internal/strconv.uint64pow10", "math/bits.deBruijn32tab", "math/bits.deBruijn64tab"], apart := false, laid := [("math/bits.deBruijn32tab", laid_math_bits_deBruijn32tab), ("math/bits.deBruijn64tab", laid_math_bits_deBruijn64tab), ("internal/strconv.uint64pow10", laid_internal_strconv_uint64pow10)] }
def StateApartSaid : Prop := stateApartRow.holds Tryz.pinned (OpenSpec.ofChange stateApartSpec)

/-- ITS FALSE NEIGHBOUR: 'it returns false'. Refute it at one input. -/
def stateApartWrong : ChangeSpec := { name := "stateApart", fn := fun _ => fun
  | [d1, d2, d3] => { results := [.lit (.bool false)], args := [d1, d2, d3] }
  | _ => none }
def StateApartWrongFalsely : Prop := stateApartRow.holds Tryz.pinned (OpenSpec.ofChange stateApartWrong)

/-- 'proteanlaw08.StateJoined': WHATEVER THE INPUT: true; the input reads as it did. -/
def stateJoinedSpec : ChangeSpec := { name := "stateJoined", fn := fun _ => fun
  | [d1, d2, d3] => { results := [.lit (.bool true)], args := [d1, d2, d3] }
  | _ => none }
def stateJoinedRow : OpenClaim := { program := "ytijheoafbhjcbaagreatdoor", sum := "8bd5025cee0aaf408a49eda17e79d742e439c98e5d5ff6bc4a054e67ee9b7671", func := "protean/proteanlaw08.StateJoined", spec := "stateJoined", inPlace := ["slices.overlaps[protean/api.Bind]", "internal/bytealg.abigen_runtime_cmpstring", "slices.overlaps[protean/api.Field]", "slices.overlaps[protean/api.Loc]", "internal/abi.NoEscape", "internal/bytealg.MakeNoZero"], unfollowed := true, recurses := true, named := ["internal/strconv.uint64pow10", "math/bits.deBruijn32tab", "math/bits.deBruijn64tab"], apart := false, laid := [("math/bits.deBruijn32tab", laid_math_bits_deBruijn32tab), ("math/bits.deBruijn64tab", laid_math_bits_deBruijn64tab), ("internal/strconv.uint64pow10", laid_internal_strconv_uint64pow10)] }
def StateJoinedSaid : Prop := stateJoinedRow.holds Tryz.pinned (OpenSpec.ofChange stateJoinedSpec)

/-- ITS FALSE NEIGHBOUR: 'it returns false'. Refute it at one input. -/
def stateJoinedWrong : ChangeSpec := { name := "stateJoined", fn := fun _ => fun
  | [d1, d2, d3] => { results := [.lit (.bool false)], args := [d1, d2, d3] }
  | _ => none }
def StateJoinedWrongFalsely : Prop := stateJoinedRow.holds Tryz.pinned (OpenSpec.ofChange stateJoinedWrong)

/- THE SECOND FORM. 'bulk': how many values and letters a reading holds, each counted each time it is reached (what is shared counts as often as it is met; a slice's spare places count too). A statement '..UptoSaid' is the law's where the arguments, and the package variables that the reading takes, are together of bulk at most 1048576: NARROWER than '..Said'. Prove '..Said' where nothing that the law and all that it calls make is longer than what came in: it says more and counts as full. Else prove '..UptoSaid'. A law counts once. -/
mutual
def uptoBulk {H : Type} : DataW H → Nat
  | .lit (.string bytes) => bytes.length + 1
  | .lit _ => 1
  | .nil => 1
  | .ptr d => uptoBulk d + 1
  | .slice elems spare => uptoBulkAll elems + uptoBulkAll spare + 1
  | .agg parts => uptoBulkAll parts + 1
  | .iface _ d => uptoBulk d + 1
  | .map entries => uptoBulkEntries entries + 1
  | .held _ => 1
def uptoBulkAll {H : Type} : List (DataW H) → Nat
  | [] => 0
  | d :: r => uptoBulk d + uptoBulkAll r
def uptoBulkEntries {H : Type} : List (Lit × DataW H) → Nat
  | [] => 0
  | x :: r => uptoBulkEntry x + uptoBulkEntries r
def uptoBulkEntry {H : Type} : Lit × DataW H → Nat
  | (.string bytes, d) => bytes.length + uptoBulk d + 1
  | (_, d) => uptoBulk d + 1
 end
def uptoSmall : (H : Type) → List (DataW H) → Bool := fun _ ds => decide (uptoBulkAll ds ≤ 1048576)
def OpenSpec.upto (s : _root_.Go.ChangeSpec) : _root_.Go.OpenSpec := { _root_.Go.OpenSpec.ofChange s with cond := some uptoSmall }

/-- 'proteanlaw08.StateTells', WHERE WHAT IT READS IS OF BULK AT MOST 1048576: true; the input reads as it did. -/
def stateTellsUptoRow : OpenClaim := { program := "ytijheoafbhjcbaagreatdoor", sum := "8bd5025cee0aaf408a49eda17e79d742e439c98e5d5ff6bc4a054e67ee9b7671", func := "protean/proteanlaw08.StateTells", spec := "stateTells", inPlace := ["slices.overlaps[protean/api.Bind]", "internal/bytealg.abigen_runtime_cmpstring", "slices.overlaps[protean/api.Field]", "slices.overlaps[protean/api.Loc]", "internal/abi.NoEscape", "internal/bytealg.MakeNoZero"], unfollowed := true, recurses := true, named := ["internal/strconv.uint64pow10", "math/bits.deBruijn32tab", "math/bits.deBruijn64tab"], apart := false, laid := [("math/bits.deBruijn32tab", laid_math_bits_deBruijn32tab), ("math/bits.deBruijn64tab", laid_math_bits_deBruijn64tab), ("internal/strconv.uint64pow10", laid_internal_strconv_uint64pow10)], narrowed := true }
def StateTellsUptoSaid : Prop := stateTellsUptoRow.holds Tryz.pinned (OpenSpec.upto stateTellsSpec)

/-- 'proteanlaw08.StateSets', WHERE WHAT IT READS IS OF BULK AT MOST 1048576: true; the input reads as it did. -/
def stateSetsUptoRow : OpenClaim := { program := "ytijheoafbhjcbaagreatdoor", sum := "8bd5025cee0aaf408a49eda17e79d742e439c98e5d5ff6bc4a054e67ee9b7671", func := "protean/proteanlaw08.StateSets", spec := "stateSets", inPlace := ["slices.overlaps[protean/api.Bind]", "internal/bytealg.abigen_runtime_cmpstring", "slices.overlaps[protean/api.Field]", "slices.overlaps[protean/api.Loc]", "internal/abi.NoEscape", "internal/bytealg.MakeNoZero"], unfollowed := true, recurses := true, named := ["internal/strconv.uint64pow10", "math/bits.deBruijn32tab", "math/bits.deBruijn64tab"], apart := false, laid := [("math/bits.deBruijn32tab", laid_math_bits_deBruijn32tab), ("math/bits.deBruijn64tab", laid_math_bits_deBruijn64tab), ("internal/strconv.uint64pow10", laid_internal_strconv_uint64pow10)], narrowed := true }
def StateSetsUptoSaid : Prop := stateSetsUptoRow.holds Tryz.pinned (OpenSpec.upto stateSetsSpec)

/-- 'proteanlaw08.StateJoin', WHERE WHAT IT READS IS OF BULK AT MOST 1048576: true; the input reads as it did. -/
def stateJoinUptoRow : OpenClaim := { program := "ytijheoafbhjcbaagreatdoor", sum := "8bd5025cee0aaf408a49eda17e79d742e439c98e5d5ff6bc4a054e67ee9b7671", func := "protean/proteanlaw08.StateJoin", spec := "stateJoin", inPlace := ["slices.overlaps[protean/api.Bind]", "internal/bytealg.abigen_runtime_cmpstring", "slices.overlaps[protean/api.Field]", "slices.overlaps[protean/api.Loc]", "internal/abi.NoEscape", "internal/bytealg.MakeNoZero"], unfollowed := true, recurses := true, named := ["internal/strconv.uint64pow10", "math/bits.deBruijn32tab", "math/bits.deBruijn64tab"], apart := false, laid := [("math/bits.deBruijn32tab", laid_math_bits_deBruijn32tab), ("math/bits.deBruijn64tab", laid_math_bits_deBruijn64tab), ("internal/strconv.uint64pow10", laid_internal_strconv_uint64pow10)], narrowed := true }
def StateJoinUptoSaid : Prop := stateJoinUptoRow.holds Tryz.pinned (OpenSpec.upto stateJoinSpec)

/-- 'proteanlaw08.StateOrder', WHERE WHAT IT READS IS OF BULK AT MOST 1048576: true; the input reads as it did. -/
def stateOrderUptoRow : OpenClaim := { program := "ytijheoafbhjcbaagreatdoor", sum := "8bd5025cee0aaf408a49eda17e79d742e439c98e5d5ff6bc4a054e67ee9b7671", func := "protean/proteanlaw08.StateOrder", spec := "stateOrder", inPlace := ["slices.overlaps[protean/api.Bind]", "internal/bytealg.abigen_runtime_cmpstring", "slices.overlaps[protean/api.Field]", "slices.overlaps[protean/api.Loc]", "internal/abi.NoEscape", "internal/bytealg.MakeNoZero"], unfollowed := true, recurses := true, named := ["internal/strconv.uint64pow10", "math/bits.deBruijn32tab", "math/bits.deBruijn64tab"], apart := false, laid := [("math/bits.deBruijn32tab", laid_math_bits_deBruijn32tab), ("math/bits.deBruijn64tab", laid_math_bits_deBruijn64tab), ("internal/strconv.uint64pow10", laid_internal_strconv_uint64pow10)], narrowed := true }
def StateOrderUptoSaid : Prop := stateOrderUptoRow.holds Tryz.pinned (OpenSpec.upto stateOrderSpec)

/-- 'proteanlaw08.StateApart', WHERE WHAT IT READS IS OF BULK AT MOST 1048576: true; the input reads as it did. -/
def stateApartUptoRow : OpenClaim := { program := "ytijheoafbhjcbaagreatdoor", sum := "8bd5025cee0aaf408a49eda17e79d742e439c98e5d5ff6bc4a054e67ee9b7671", func := "protean/proteanlaw08.StateApart", spec := "stateApart", inPlace := ["slices.overlaps[protean/api.Bind]", "internal/bytealg.abigen_runtime_cmpstring", "slices.overlaps[protean/api.Field]", "slices.overlaps[protean/api.Loc]", "internal/abi.NoEscape", "internal/bytealg.MakeNoZero"], unfollowed := true, recurses := true, named := ["internal/strconv.uint64pow10", "math/bits.deBruijn32tab", "math/bits.deBruijn64tab"], apart := false, laid := [("math/bits.deBruijn32tab", laid_math_bits_deBruijn32tab), ("math/bits.deBruijn64tab", laid_math_bits_deBruijn64tab), ("internal/strconv.uint64pow10", laid_internal_strconv_uint64pow10)], narrowed := true }
def StateApartUptoSaid : Prop := stateApartUptoRow.holds Tryz.pinned (OpenSpec.upto stateApartSpec)

/-- 'proteanlaw08.StateJoined', WHERE WHAT IT READS IS OF BULK AT MOST 1048576: true; the input reads as it did. -/
def stateJoinedUptoRow : OpenClaim := { program := "ytijheoafbhjcbaagreatdoor", sum := "8bd5025cee0aaf408a49eda17e79d742e439c98e5d5ff6bc4a054e67ee9b7671", func := "protean/proteanlaw08.StateJoined", spec := "stateJoined", inPlace := ["slices.overlaps[protean/api.Bind]", "internal/bytealg.abigen_runtime_cmpstring", "slices.overlaps[protean/api.Field]", "slices.overlaps[protean/api.Loc]", "internal/abi.NoEscape", "internal/bytealg.MakeNoZero"], unfollowed := true, recurses := true, named := ["internal/strconv.uint64pow10", "math/bits.deBruijn32tab", "math/bits.deBruijn64tab"], apart := false, laid := [("math/bits.deBruijn32tab", laid_math_bits_deBruijn32tab), ("math/bits.deBruijn64tab", laid_math_bits_deBruijn64tab), ("internal/strconv.uint64pow10", laid_internal_strconv_uint64pow10)], narrowed := true }
def StateJoinedUptoSaid : Prop := stateJoinedUptoRow.holds Tryz.pinned (OpenSpec.upto stateJoinedSpec)

end Rows
end Go.Proofs.YtijheoafbhjcbaaGreatDoor

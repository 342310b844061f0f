/-
  No cell of these rows narrows 'for every input' (looked for: loops, veiled, ifaces, maps, wideKeys, modest, calm, conditions, laid).
  DERIVED. THE GIVEN ROWS OF THIS SEAT. 8 by the template 'for every input the law returns true; each argument reads behind the call as it read before'; 0 by the template 'total and deterministic' (their statements: YtmklilemnfkppaaTotals.lean).
  GIVEN WITH THE SEED: the statements are not yours to turn. If you find one false, say at which input.
  Laid BY PROGRAM, IN A SANDBOX (cutbox-rows.mjs): the forced cells as the released guide's own fill.sh prints them over the translation a9084dafef696341… (all of the seat's roots in one cut). By AI agents, Wed Nov 11 2026. No macro, syntax, notation, axiom, sorry.
-/
import Derived.Test.YtmklilemnfkppaaChecked
import GoSem.Claim
import GoSem.ClaimJoined
import GoSem.ClaimMapViews
import Derived.JoinedTies
import Derived.KernelRfl
namespace Go.Proofs.Ytmklilemnfkppaa
/- THE CELL 'sum', in the pinned program and in every row, IS THE sha256 OF THE DUMP (.gsa) THAT YtmklilemnfkppaaProg.lean LOADS. Nothing in Lean hashes anything: it is a label: what it is worth is what the hold of that sum in a sandbox is worth. -/
noncomputable def Try.pinned : Pinned := { name := "ytmklilemnfkppaa", sum := "a9084dafef6963416ad6a29fa3a0514fae60c48d15281aa7227efe263ea297e8", checked := Try.checked }
namespace Rows
def none {H : Type} : Left H := { results := [], args := [] }

/-- 'proteanlaw20.CastTells': WHATEVER THE INPUT: true; the input reads as it did. -/
def castTellsSpec : ChangeSpec := { name := "castTells", fn := fun _ => fun
  | [d1, d2] => { results := [.lit (.bool true)], args := [d1, d2] }
  | _ => none }
def castTellsRow : OpenClaim := { program := "ytmklilemnfkppaa", sum := "a9084dafef6963416ad6a29fa3a0514fae60c48d15281aa7227efe263ea297e8", func := "protean/proteanlaw20.CastTells", spec := "castTells", inPlace := ["internal/bytealg.abigen_runtime_cmpstring"], unfollowed := true, recurses := true, plainKeys := false, apart := false }
def CastTellsSaid : Prop := castTellsRow.holds Try.pinned (OpenSpec.ofChange castTellsSpec)

/-- ITS FALSE NEIGHBOUR: 'it returns false'. Refute it at one input. -/
def castTellsWrong : ChangeSpec := { name := "castTells", fn := fun _ => fun
  | [d1, d2] => { results := [.lit (.bool false)], args := [d1, d2] }
  | _ => none }
def CastTellsWrongFalsely : Prop := castTellsRow.holds Try.pinned (OpenSpec.ofChange castTellsWrong)

/-- 'proteanlaw20.CastStays': WHATEVER THE INPUT: true; the input reads as it did. -/
def castStaysSpec : ChangeSpec := { name := "castStays", fn := fun _ => fun
  | [d1, d2, d3] => { results := [.lit (.bool true)], args := [d1, d2, d3] }
  | _ => none }
def castStaysRow : OpenClaim := { program := "ytmklilemnfkppaa", sum := "a9084dafef6963416ad6a29fa3a0514fae60c48d15281aa7227efe263ea297e8", func := "protean/proteanlaw20.CastStays", spec := "castStays", inPlace := ["internal/bytealg.abigen_runtime_cmpstring"], unfollowed := true, recurses := true, plainKeys := false, apart := false }
def CastStaysSaid : Prop := castStaysRow.holds Try.pinned (OpenSpec.ofChange castStaysSpec)

/-- ITS FALSE NEIGHBOUR: 'it returns false'. Refute it at one input. -/
def castStaysWrong : ChangeSpec := { name := "castStays", fn := fun _ => fun
  | [d1, d2, d3] => { results := [.lit (.bool false)], args := [d1, d2, d3] }
  | _ => none }
def CastStaysWrongFalsely : Prop := castStaysRow.holds Try.pinned (OpenSpec.ofChange castStaysWrong)

/-- 'proteanlaw20.CastKinds': WHATEVER THE INPUT: true; the input reads as it did. -/
def castKindsSpec : ChangeSpec := { name := "castKinds", fn := fun _ => fun
  | [d1, d2, d3] => { results := [.lit (.bool true)], args := [d1, d2, d3] }
  | _ => none }
def castKindsRow : OpenClaim := { program := "ytmklilemnfkppaa", sum := "a9084dafef6963416ad6a29fa3a0514fae60c48d15281aa7227efe263ea297e8", func := "protean/proteanlaw20.CastKinds", spec := "castKinds", inPlace := ["internal/bytealg.abigen_runtime_cmpstring"], unfollowed := true, recurses := true, plainKeys := false, apart := false }
def CastKindsSaid : Prop := castKindsRow.holds Try.pinned (OpenSpec.ofChange castKindsSpec)

/-- ITS FALSE NEIGHBOUR: 'it returns false'. Refute it at one input. -/
def castKindsWrong : ChangeSpec := { name := "castKinds", fn := fun _ => fun
  | [d1, d2, d3] => { results := [.lit (.bool false)], args := [d1, d2, d3] }
  | _ => none }
def CastKindsWrongFalsely : Prop := castKindsRow.holds Try.pinned (OpenSpec.ofChange castKindsWrong)

/-- 'proteanlaw20.CastParts': WHATEVER THE INPUT: true; the input reads as it did. -/
def castPartsSpec : ChangeSpec := { name := "castParts", fn := fun _ => fun
  | [d1, d2, d3] => { results := [.lit (.bool true)], args := [d1, d2, d3] }
  | _ => none }
def castPartsRow : OpenClaim := { program := "ytmklilemnfkppaa", sum := "a9084dafef6963416ad6a29fa3a0514fae60c48d15281aa7227efe263ea297e8", func := "protean/proteanlaw20.CastParts", spec := "castParts", inPlace := ["internal/bytealg.abigen_runtime_cmpstring"], unfollowed := true, recurses := true, plainKeys := false, apart := false }
def CastPartsSaid : Prop := castPartsRow.holds Try.pinned (OpenSpec.ofChange castPartsSpec)

/-- ITS FALSE NEIGHBOUR: 'it returns false'. Refute it at one input. -/
def castPartsWrong : ChangeSpec := { name := "castParts", fn := fun _ => fun
  | [d1, d2, d3] => { results := [.lit (.bool false)], args := [d1, d2, d3] }
  | _ => none }
def CastPartsWrongFalsely : Prop := castPartsRow.holds Try.pinned (OpenSpec.ofChange castPartsWrong)

/-- 'proteanlaw24.TypesTells': WHATEVER THE INPUT: true; the input reads as it did. -/
def typesTellsSpec : ChangeSpec := { name := "typesTells", fn := fun _ => fun
  | [d1, d2, d3] => { results := [.lit (.bool true)], args := [d1, d2, d3] }
  | _ => none }
def typesTellsRow : OpenClaim := { program := "ytmklilemnfkppaa", sum := "a9084dafef6963416ad6a29fa3a0514fae60c48d15281aa7227efe263ea297e8", func := "protean/proteanlaw24.TypesTells", spec := "typesTells", inPlace := ["internal/bytealg.abigen_runtime_cmpstring"], unfollowed := true, recurses := true, plainKeys := false, apart := false }
def TypesTellsSaid : Prop := typesTellsRow.holds Try.pinned (OpenSpec.ofChange typesTellsSpec)

/-- ITS FALSE NEIGHBOUR: 'it returns false'. Refute it at one input. -/
def typesTellsWrong : ChangeSpec := { name := "typesTells", fn := fun _ => fun
  | [d1, d2, d3] => { results := [.lit (.bool false)], args := [d1, d2, d3] }
  | _ => none }
def TypesTellsWrongFalsely : Prop := typesTellsRow.holds Try.pinned (OpenSpec.ofChange typesTellsWrong)

/-- 'proteanlaw24.TypesOrder': WHATEVER THE INPUT: true; the input reads as it did. -/
def typesOrderSpec : ChangeSpec := { name := "typesOrder", fn := fun _ => fun
  | [d1, d2] => { results := [.lit (.bool true)], args := [d1, d2] }
  | _ => none }
def typesOrderRow : OpenClaim := { program := "ytmklilemnfkppaa", sum := "a9084dafef6963416ad6a29fa3a0514fae60c48d15281aa7227efe263ea297e8", func := "protean/proteanlaw24.TypesOrder", spec := "typesOrder", inPlace := ["internal/bytealg.abigen_runtime_cmpstring"], unfollowed := true, recurses := true, plainKeys := false, apart := false }
def TypesOrderSaid : Prop := typesOrderRow.holds Try.pinned (OpenSpec.ofChange typesOrderSpec)

/-- ITS FALSE NEIGHBOUR: 'it returns false'. Refute it at one input. -/
def typesOrderWrong : ChangeSpec := { name := "typesOrder", fn := fun _ => fun
  | [d1, d2] => { results := [.lit (.bool false)], args := [d1, d2] }
  | _ => none }
def TypesOrderWrongFalsely : Prop := typesOrderRow.holds Try.pinned (OpenSpec.ofChange typesOrderWrong)

/-- 'proteanlaw24.TypesSound': WHATEVER THE INPUT: true; the input reads as it did. -/
def typesSoundSpec : ChangeSpec := { name := "typesSound", fn := fun _ => fun
  | [d1, d2, d3] => { results := [.lit (.bool true)], args := [d1, d2, d3] }
  | _ => none }
def typesSoundRow : OpenClaim := { program := "ytmklilemnfkppaa", sum := "a9084dafef6963416ad6a29fa3a0514fae60c48d15281aa7227efe263ea297e8", func := "protean/proteanlaw24.TypesSound", spec := "typesSound", inPlace := ["internal/bytealg.abigen_runtime_cmpstring"], unfollowed := true, recurses := true, plainKeys := false, apart := false }
def TypesSoundSaid : Prop := typesSoundRow.holds Try.pinned (OpenSpec.ofChange typesSoundSpec)

/-- ITS FALSE NEIGHBOUR: 'it returns false'. Refute it at one input. -/
def typesSoundWrong : ChangeSpec := { name := "typesSound", fn := fun _ => fun
  | [d1, d2, d3] => { results := [.lit (.bool false)], args := [d1, d2, d3] }
  | _ => none }
def TypesSoundWrongFalsely : Prop := typesSoundRow.holds Try.pinned (OpenSpec.ofChange typesSoundWrong)

/-- 'proteanlaw24.TypesGrow': WHATEVER THE INPUT: true; the input reads as it did. -/
def typesGrowSpec : ChangeSpec := { name := "typesGrow", fn := fun _ => fun
  | [d1, d2, d3] => { results := [.lit (.bool true)], args := [d1, d2, d3] }
  | _ => none }
def typesGrowRow : OpenClaim := { program := "ytmklilemnfkppaa", sum := "a9084dafef6963416ad6a29fa3a0514fae60c48d15281aa7227efe263ea297e8", func := "protean/proteanlaw24.TypesGrow", spec := "typesGrow", inPlace := ["internal/bytealg.abigen_runtime_cmpstring"], unfollowed := true, recurses := true, plainKeys := false, apart := false }
def TypesGrowSaid : Prop := typesGrowRow.holds Try.pinned (OpenSpec.ofChange typesGrowSpec)

/-- ITS FALSE NEIGHBOUR: 'it returns false'. Refute it at one input. -/
def typesGrowWrong : ChangeSpec := { name := "typesGrow", fn := fun _ => fun
  | [d1, d2, d3] => { results := [.lit (.bool false)], args := [d1, d2, d3] }
  | _ => none }
def TypesGrowWrongFalsely : Prop := typesGrowRow.holds Try.pinned (OpenSpec.ofChange typesGrowWrong)

/- THE SECOND FORM. 'bulk': how many values and letters a reading holds, each counted each time it is reached (what is shared counts as often as it is met; a slice's spare places count too). A statement '..UptoSaid' is the law's where the arguments, and the package variables that the reading takes, are together of bulk at most 1048576: NARROWER than '..Said'. Prove '..Said' where nothing that the law and all that it calls make is longer than what came in: it says more and counts as full. Else prove '..UptoSaid'. A law counts once. -/
mutual
def uptoBulk {H : Type} : DataW H → Nat
  | .lit (.string bytes) => bytes.length + 1
  | .lit _ => 1
  | .nil => 1
  | .ptr d => uptoBulk d + 1
  | .slice elems spare => uptoBulkAll elems + uptoBulkAll spare + 1
  | .agg parts => uptoBulkAll parts + 1
  | .iface _ d => uptoBulk d + 1
  | .map entries => uptoBulkEntries entries + 1
  | .held _ => 1
def uptoBulkAll {H : Type} : List (DataW H) → Nat
  | [] => 0
  | d :: r => uptoBulk d + uptoBulkAll r
def uptoBulkEntries {H : Type} : List (Lit × DataW H) → Nat
  | [] => 0
  | x :: r => uptoBulkEntry x + uptoBulkEntries r
def uptoBulkEntry {H : Type} : Lit × DataW H → Nat
  | (.string bytes, d) => bytes.length + uptoBulk d + 1
  | (_, d) => uptoBulk d + 1
 end
def uptoSmall : (H : Type) → List (DataW H) → Bool := fun _ ds => decide (uptoBulkAll ds ≤ 1048576)
def OpenSpec.upto (s : _root_.Go.ChangeSpec) : _root_.Go.OpenSpec := { _root_.Go.OpenSpec.ofChange s with cond := some uptoSmall }

/-- 'proteanlaw20.CastTells', WHERE WHAT IT READS IS OF BULK AT MOST 1048576: true; the input reads as it did. -/
def castTellsUptoRow : OpenClaim := { program := "ytmklilemnfkppaa", sum := "a9084dafef6963416ad6a29fa3a0514fae60c48d15281aa7227efe263ea297e8", func := "protean/proteanlaw20.CastTells", spec := "castTells", inPlace := ["internal/bytealg.abigen_runtime_cmpstring"], unfollowed := true, recurses := true, plainKeys := false, apart := false, narrowed := true }
def CastTellsUptoSaid : Prop := castTellsUptoRow.holds Try.pinned (OpenSpec.upto castTellsSpec)

/-- 'proteanlaw20.CastStays', WHERE WHAT IT READS IS OF BULK AT MOST 1048576: true; the input reads as it did. -/
def castStaysUptoRow : OpenClaim := { program := "ytmklilemnfkppaa", sum := "a9084dafef6963416ad6a29fa3a0514fae60c48d15281aa7227efe263ea297e8", func := "protean/proteanlaw20.CastStays", spec := "castStays", inPlace := ["internal/bytealg.abigen_runtime_cmpstring"], unfollowed := true, recurses := true, plainKeys := false, apart := false, narrowed := true }
def CastStaysUptoSaid : Prop := castStaysUptoRow.holds Try.pinned (OpenSpec.upto castStaysSpec)

/-- 'proteanlaw20.CastKinds', WHERE WHAT IT READS IS OF BULK AT MOST 1048576: true; the input reads as it did. -/
def castKindsUptoRow : OpenClaim := { program := "ytmklilemnfkppaa", sum := "a9084dafef6963416ad6a29fa3a0514fae60c48d15281aa7227efe263ea297e8", func := "protean/proteanlaw20.CastKinds", spec := "castKinds", inPlace := ["internal/bytealg.abigen_runtime_cmpstring"], unfollowed := true, recurses := true, plainKeys := false, apart := false, narrowed := true }
def CastKindsUptoSaid : Prop := castKindsUptoRow.holds Try.pinned (OpenSpec.upto castKindsSpec)

/-- 'proteanlaw20.CastParts', WHERE WHAT IT READS IS OF BULK AT MOST 1048576: true; the input reads as it did. -/
def castPartsUptoRow : OpenClaim := { program := "ytmklilemnfkppaa", sum := "a9084dafef6963416ad6a29fa3a0514fae60c48d15281aa7227efe263ea297e8", func := "protean/proteanlaw20.CastParts", spec := "castParts", inPlace := ["internal/bytealg.abigen_runtime_cmpstring"], unfollowed := true, recurses := true, plainKeys := false, apart := false, narrowed := true }
def CastPartsUptoSaid : Prop := castPartsUptoRow.holds Try.pinned (OpenSpec.upto castPartsSpec)

/-- 'proteanlaw24.TypesTells', WHERE WHAT IT READS IS OF BULK AT MOST 1048576: true; the input reads as it did. -/
def typesTellsUptoRow : OpenClaim := { program := "ytmklilemnfkppaa", sum := "a9084dafef6963416ad6a29fa3a0514fae60c48d15281aa7227efe263ea297e8", func := "protean/proteanlaw24.TypesTells", spec := "typesTells", inPlace := ["internal/bytealg.abigen_runtime_cmpstring"], unfollowed := true, recurses := true, plainKeys := false, apart := false, narrowed := true }
def TypesTellsUptoSaid : Prop := typesTellsUptoRow.holds Try.pinned (OpenSpec.upto typesTellsSpec)

/-- 'proteanlaw24.TypesOrder', WHERE WHAT IT READS IS OF BULK AT MOST 1048576: true; the input reads as it did. -/
def typesOrderUptoRow : OpenClaim := { program := "ytmklilemnfkppaa", sum := "a9084dafef6963416ad6a29fa3a0514fae60c48d15281aa7227efe263ea297e8", func := "protean/proteanlaw24.TypesOrder", spec := "typesOrder", inPlace := ["internal/bytealg.abigen_runtime_cmpstring"], unfollowed := true, recurses := true, plainKeys := false, apart := false, narrowed := true }
def TypesOrderUptoSaid : Prop := typesOrderUptoRow.holds Try.pinned (OpenSpec.upto typesOrderSpec)

/-- 'proteanlaw24.TypesSound', WHERE WHAT IT READS IS OF BULK AT MOST 1048576: true; the input reads as it did. -/
def typesSoundUptoRow : OpenClaim := { program := "ytmklilemnfkppaa", sum := "a9084dafef6963416ad6a29fa3a0514fae60c48d15281aa7227efe263ea297e8", func := "protean/proteanlaw24.TypesSound", spec := "typesSound", inPlace := ["internal/bytealg.abigen_runtime_cmpstring"], unfollowed := true, recurses := true, plainKeys := false, apart := false, narrowed := true }
def TypesSoundUptoSaid : Prop := typesSoundUptoRow.holds Try.pinned (OpenSpec.upto typesSoundSpec)

/-- 'proteanlaw24.TypesGrow', WHERE WHAT IT READS IS OF BULK AT MOST 1048576: true; the input reads as it did. -/
def typesGrowUptoRow : OpenClaim := { program := "ytmklilemnfkppaa", sum := "a9084dafef6963416ad6a29fa3a0514fae60c48d15281aa7227efe263ea297e8", func := "protean/proteanlaw24.TypesGrow", spec := "typesGrow", inPlace := ["internal/bytealg.abigen_runtime_cmpstring"], unfollowed := true, recurses := true, plainKeys := false, apart := false, narrowed := true }
def TypesGrowUptoSaid : Prop := typesGrowUptoRow.holds Try.pinned (OpenSpec.upto typesGrowSpec)

end Rows
end Go.Proofs.Ytmklilemnfkppaa

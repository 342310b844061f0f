/- ConformTells is proved: whatever the input, the law returns true and its arguments read as before. No condition. -/
import Derived.Test.YtoicfdfjjnfgaaaRows
import Derived.Test.YtoicfdfjjnfgaaaG6
import Derived.Test.YtoicfdfjjnfgaaaG4
import Derived.WalkKit
import Derived.ProofKit
import Derived.OpenShut
import Derived.ShutString
import Derived.ChangeOld
import Derived.Below
import Derived.SizedLaws
set_option linter.all false
namespace Go.Proofs.Ytoicfdfjjnfgaaa.conformTells
open Go Go.PG Go.ChangeShapes Go.WideShapes Go.ChangeAt Go.RowKit Go.PL Go.PL.Cf
theorem own : ownKnob Try.prog.godebug = none := by kernel_rfl
theorem laidOut : laidOutB Try.prog = true := by kernel_rfl
set_option maxRecDepth 100000 in
theorem lifted (os : Os) (started : os.Started) (H : Type) (enc : TypeId × Value → H) :
    ReturnsInHanded {} Try.checked os 7 .any (Rows.conformTellsSpec.pre6 enc Try.prog Try.f7 Rows.conformTellsRow.domain false) (Rows.conformTellsSpec.post enc Try.prog Try.f7 false true false false) := by
  refine returnsInHanded_of_change_sized (C := Try.checked) own started (by kernel_rfl) Try.func7 (ChangeSpec.witness6 (enc := enc) (C := Try.checked) false ⟨#[], #[.agg #[.slice none 0 0, .slice none 0 0, .slice none 0 0, .slice none 0 0, .bool false, .slice none 0 0, .slice none 0 0], .agg #[.int .i64 0, .int .i64 0], .int .i64 0], []⟩ 8 (by kernel_rfl) (by kernel_rfl) (by kernel_rfl) (by kernel_rfl)) ?_
  intro W base args ds gs before hval0 hW hcnd hsz0 _
  refine rowContract (law21_ConformTells_spec K) laidOut (ArgsOk.of_b (by kernel_rfl)) (readable_of_b (by kernel_rfl)) (rt := 4) (by kernel_rfl) (by kernel_rfl) rfl (fun ds hl => ?_) hval0 hW (fun x h => tells21 x h.1.1.2.2.1 h.1.2.1.1)
  obtain ⟨d1, d2, d3, rfl⟩ : ∃ d1 d2 d3, ds = [d1, d2, d3] := by
    match ds, hl with
    | [d1, d2, d3], _ => exact ⟨d1, d2, d3, rfl⟩
  rfl
theorem over : Rows.conformTellsRow.holds Try.pinned (OpenSpec.ofChange Rows.conformTellsSpec) :=
  OpenClaim.holds_of_wide 7 Try.f7 rfl rfl rfl rfl rfl rfl rfl ⟨rfl, rfl, rfl, rfl, rfl⟩ rfl rfl rfl rfl rfl (by kernel_rfl) Try.func7 (by kernel_rfl)
    (of_decide_eq_true (by kernel_rfl)) (by unfold Func.isWrapper; first | (rw [if_pos (by decide +kernel)]; kernel_rfl) | (rw [if_neg (by decide +kernel)]; exact ⟨rfl, rfl⟩))
    (fun os started H enc _ => lifted os started H enc)
theorem proved : Rows.ConformTellsSaid := over
#print axioms proved
end Go.Proofs.Ytoicfdfjjnfgaaa.conformTells
namespace Go.Proofs.Ytoicfdfjjnfgaaa
theorem conformTells_holds : Rows.ConformTellsSaid := conformTells.proved
end Go.Proofs.Ytoicfdfjjnfgaaa

/- ConformGrows is proved: whatever the input, the law returns true and its arguments read as before. No condition. -/
import Derived.Test.YtoicfdfjjnfgaaaRows
import Derived.Test.YtoicfdfjjnfgaaaG6
import Derived.Test.YtoicfdfjjnfgaaaG4
import Derived.WalkKit
import Derived.ProofKit
import Derived.OpenShut
import Derived.ShutString
import Derived.ChangeOld
import Derived.Below
import Derived.SizedLaws
set_option linter.all false
namespace Go.Proofs.Ytoicfdfjjnfgaaa.conformGrows
open Go Go.PG Go.ChangeShapes Go.WideShapes Go.ChangeAt Go.RowKit Go.PL Go.PL.Cf
theorem own : ownKnob Try.prog.godebug = none := by kernel_rfl
theorem laidOut : laidOutB Try.prog = true := by kernel_rfl
set_option maxRecDepth 100000 in
theorem lifted (os : Os) (started : os.Started) (H : Type) (enc : TypeId × Value → H) :
    ReturnsInHanded {} Try.checked os 12 .any (Rows.conformGrowsSpec.pre6 enc Try.prog Try.f12 Rows.conformGrowsRow.domain false) (Rows.conformGrowsSpec.post enc Try.prog Try.f12 false true false false) := by
  refine returnsInHanded_of_change_sized (C := Try.checked) own started (by kernel_rfl) Try.func12 (ChangeSpec.witness6 (enc := enc) (C := Try.checked) false ⟨#[], #[.agg #[.slice none 0 0, .slice none 0 0, .slice none 0 0, .slice none 0 0, .bool false, .slice none 0 0, .slice none 0 0], .agg #[.string ByteArray.empty, .string ByteArray.empty, .int .i64 0, .int .i64 0, .slice none 0 0], .int .i64 0], []⟩ 8 (by kernel_rfl) (by kernel_rfl) (by kernel_rfl) (by kernel_rfl)) ?_
  intro W base args ds gs before hval0 hW hcnd hsz0 _
  refine rowContractB (bytesAtom (by kernel_rfl)) (law21_ConformGrows_spec K) laidOut (ArgsOk.of_b (by kernel_rfl)) (readable_of_b (by kernel_rfl)) (rt := 4) (by kernel_rfl) (by kernel_rfl) rfl (fun ds hl => ?_) hval0 hW hsz0 (fun x h hb => grows21 x h.1.1.2.2.1 h.1.2.1.1 (lt_bytes21 hb.2.1.2.2.2.1))
  obtain ⟨d1, d2, d3, rfl⟩ : ∃ d1 d2 d3, ds = [d1, d2, d3] := by
    match ds, hl with
    | [d1, d2, d3], _ => exact ⟨d1, d2, d3, rfl⟩
  rfl
theorem over : Rows.conformGrowsRow.holds Try.pinned (OpenSpec.ofChange Rows.conformGrowsSpec) :=
  OpenClaim.holds_of_wide 12 Try.f12 rfl rfl rfl rfl rfl rfl rfl ⟨rfl, rfl, rfl, rfl, rfl⟩ rfl rfl rfl rfl rfl (by kernel_rfl) Try.func12 (by kernel_rfl)
    (of_decide_eq_true (by kernel_rfl)) (by unfold Func.isWrapper; first | (rw [if_pos (by decide +kernel)]; kernel_rfl) | (rw [if_neg (by decide +kernel)]; exact ⟨rfl, rfl⟩))
    (fun os started H enc _ => lifted os started H enc)
theorem proved : Rows.ConformGrowsSaid := over
#print axioms proved
end Go.Proofs.Ytoicfdfjjnfgaaa.conformGrows
namespace Go.Proofs.Ytoicfdfjjnfgaaa
theorem conformGrows_holds : Rows.ConformGrowsSaid := conformGrows.proved
end Go.Proofs.Ytoicfdfjjnfgaaa

/- DemoteForgets is proved: whatever the input, the law returns true and its arguments read as before. No condition. -/
import Derived.Test.YteajfebkgabndaaGreatRows
import Derived.Test.YteajfebkgabndaaGreatG7
import Derived.Test.YteajfebkgabndaaGreatG3
import Derived.WalkKit
import Derived.ProofKit
import Derived.OpenShut
import Derived.ShutString
import Derived.ChangeOld
import Derived.Below
import Derived.SizedLaws
set_option linter.all false
namespace Go.Proofs.YteajfebkgabndaaGreat.demoteForgets
open Go Go.PG Go.ChangeShapes Go.WideShapes Go.ChangeAt Go.RowKit Go.PL
theorem own : ownKnob Tryz.prog.godebug = none := by kernel_rfl
theorem laidOut : laidOutB Tryz.prog = true := by kernel_rfl
set_option maxRecDepth 100000 in
theorem lifted (os : Os) (started : os.Started) (H : Type) (enc : TypeId × Value → H) :
    ReturnsInHanded {} Tryz.checked os 4 .any (Rows.demoteForgetsSpec.pre6 enc Tryz.prog Tryz.f4 Rows.demoteForgetsRow.domain false) (Rows.demoteForgetsSpec.post enc Tryz.prog Tryz.f4 false true false false) := by
  refine returnsInHanded_of_change_sized (C := Tryz.checked) own started (by kernel_rfl) Tryz.func4 (ChangeSpec.witness6 (enc := enc) (C := Tryz.checked) false ⟨#[], #[.agg #[.bool false, .slice none 0 0, .slice none 0 0], .agg #[.string ByteArray.empty, .int .i64 0], .agg #[.slice none 0 0, .slice none 0 0]], []⟩ 8 (by kernel_rfl) (by kernel_rfl) (by kernel_rfl) (by kernel_rfl)) ?_
  intro W base args ds gs before hval0 hW hcnd hsz0 _
  refine rowContractB (bytesAtom (by kernel_rfl)) (law09_DemoteForgets_spec K) laidOut (ArgsOk.of_b (by kernel_rfl)) (readable_of_b (by kernel_rfl)) (rt := 4) (by kernel_rfl) (by kernel_rfl) rfl (fun ds hl => ?_) hval0 hW hsz0 (fun x h hb => forgets9 x (lt_max h.2.2.1.1) (fun f hf => lt_bytes9 (hb.2.2.1.2 f hf).2.2.1) (lt_bytes9 hb.2.2.2.1))
  obtain ⟨d1, d2, d3, rfl⟩ : ∃ d1 d2 d3, ds = [d1, d2, d3] := by
    match ds, hl with
    | [d1, d2, d3], _ => exact ⟨d1, d2, d3, rfl⟩
  rfl
theorem over : Rows.demoteForgetsRow.holds Tryz.pinned (OpenSpec.ofChange Rows.demoteForgetsSpec) :=
  OpenClaim.holds_of_wide 4 Tryz.f4 rfl rfl rfl rfl rfl rfl rfl ⟨rfl, rfl, rfl, rfl, rfl⟩ rfl rfl rfl rfl rfl (by kernel_rfl) Tryz.func4 (by kernel_rfl)
    (of_decide_eq_true (by kernel_rfl)) (by unfold Func.isWrapper; first | (rw [if_pos (by decide +kernel)]; kernel_rfl) | (rw [if_neg (by decide +kernel)]; exact ⟨rfl, rfl⟩))
    (fun os started H enc _ => lifted os started H enc)
theorem proved : Rows.DemoteForgetsSaid := over
#print axioms proved
end Go.Proofs.YteajfebkgabndaaGreat.demoteForgets
namespace Go.Proofs.YteajfebkgabndaaGreat
theorem demoteForgets_holds : Rows.DemoteForgetsSaid := demoteForgets.proved
end Go.Proofs.YteajfebkgabndaaGreat

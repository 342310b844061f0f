/- StateTells is proved: whatever the input, the law returns true and its arguments read as before. Where what it reads is of bulk at most 1048576 (the first form is false by size); the tied card. -/
import Derived.Test.YtijheoafbhjcbaaGreatDoorCards
import Derived.Test.YtijheoafbhjcbaaGreatDoorTie
import Derived.Test.YtijheoafbhjcbaaGreatDoorG6
import Derived.WalkKit
import Derived.ProofKit
import Derived.OpenShut
import Derived.ShutString
import Derived.ChangeOld
import Derived.Below
import Derived.SizedLaws
import Derived.Deep.DeepHandedRow
import Derived.Lib.LaidTab
import Derived.LaidSub
set_option linter.all false
namespace Go.Proofs.YtijheoafbhjcbaaGreatDoor.stateTellsUpto
open Go Go.PG Go.ChangeShapes Go.WideShapes Go.ChangeAt Go.RowKit Go.PL
theorem own : ownKnob Tryz.prog.godebug = none := by kernel_rfl
theorem laidOut : laidOutB Tryz.prog = true := by kernel_rfl
theorem gTab : Tryz.prog.globalNamed "internal/strconv.uint64pow10" = some 1 := by kernel_rfl
theorem gTabType : (Tryz.prog.globals[1]?).map (fun g => g.type) = some 164 := by kernel_rfl
theorem cellsT : Tryz.prog.cellsOf 164 = 20 := by kernel_rfl
theorem cellsE : Tryz.prog.cellsOf 115 = 1 := by kernel_rfl
theorem table {W : World} (h : laidMetH Tryz.prog Rows.stateTellsUptoRow.laid W) : GG W := by
  have h1 := h.filter (fun x => x.1 == "internal/strconv.uint64pow10")
  exact Lib.tabIs_of_head (rest := []) gTab gTabType Tryz.underlying164 Tryz.underlying115 cellsE cellsT h1
noncomputable def laidWorld (os : Os) : World :=
  { World.holding Tryz.prog os ⟨#[], #[], []⟩ with heap := (Array.modify (Array.modify (Array.modify (World.holding Tryz.prog os ⟨#[], #[], []⟩).heap 2 (fun
      | .cells _ t frozen => .cells #[.int .u8 0, .int .u8 1, .int .u8 28, .int .u8 2, .int .u8 29, .int .u8 14, .int .u8 24, .int .u8 3, .int .u8 30, .int .u8 22, .int .u8 20, .int .u8 15, .int .u8 25, .int .u8 17, .int .u8 4, .int .u8 8, .int .u8 31, .int .u8 27, .int .u8 13, .int .u8 23, .int .u8 21, .int .u8 19, .int .u8 16, .int .u8 7, .int .u8 26, .int .u8 12, .int .u8 18, .int .u8 6, .int .u8 11, .int .u8 5, .int .u8 10, .int .u8 9] t frozen
      | o => o)) 3 (fun
      | .cells _ t frozen => .cells #[.int .u8 0, .int .u8 1, .int .u8 56, .int .u8 2, .int .u8 57, .int .u8 49, .int .u8 28, .int .u8 3, .int .u8 61, .int .u8 58, .int .u8 42, .int .u8 50, .int .u8 38, .int .u8 29, .int .u8 17, .int .u8 4, .int .u8 62, .int .u8 47, .int .u8 59, .int .u8 36, .int .u8 45, .int .u8 43, .int .u8 51, .int .u8 22, .int .u8 53, .int .u8 39, .int .u8 33, .int .u8 30, .int .u8 24, .int .u8 18, .int .u8 12, .int .u8 5, .int .u8 63, .int .u8 55, .int .u8 48, .int .u8 27, .int .u8 60, .int .u8 41, .int .u8 37, .int .u8 16, .int .u8 46, .int .u8 35, .int .u8 44, .int .u8 21, .int .u8 52, .int .u8 32, .int .u8 23, .int .u8 11, .int .u8 54, .int .u8 26, .int .u8 40, .int .u8 15, .int .u8 34, .int .u8 20, .int .u8 31, .int .u8 10, .int .u8 25, .int .u8 14, .int .u8 19, .int .u8 9, .int .u8 13, .int .u8 8, .int .u8 7, .int .u8 6] t frozen
      | o => o)) 1 (fun
      | .cells _ t frozen => .cells #[.int .u64 1, .int .u64 10, .int .u64 100, .int .u64 1000, .int .u64 10000, .int .u64 100000, .int .u64 1000000, .int .u64 10000000, .int .u64 100000000, .int .u64 1000000000, .int .u64 10000000000, .int .u64 100000000000, .int .u64 1000000000000, .int .u64 10000000000000, .int .u64 100000000000000, .int .u64 1000000000000000, .int .u64 10000000000000000, .int .u64 100000000000000000, .int .u64 1000000000000000000, .int .u64 10000000000000000000] t frozen
      | o => o)) }
theorem laid_met (os : Os) : laidMet Tryz.prog Rows.stateTellsUptoRow.laid ((laidWorld os).forCall (fun _ _ => 0) ⟨#[], #[.agg #[.bool false, .slice none 0 0, .slice none 0 0], .agg #[.bool false, .slice none 0 0, .slice none 0 0], .agg #[.string ByteArray.empty, .int .i64 0, .int .i64 0]], []⟩).memory :=
  laidMet_of_run' 8 (by kernel_rfl) (by kernel_rfl)
set_option maxRecDepth 100000 in
theorem lifted (os : Os) (started : os.Started) (H : Type) (enc : TypeId × Value → H) (F : Stop.Interp) :
    ReturnsInHanded {} Tryz.checked os 3 .any ((Rows.OpenSpec.upto Rows.stateTellsSpec).preRow enc Tryz.prog Tryz.f3 Rows.stateTellsUptoRow.domain false Rows.stateTellsUptoRow.laid) (((Rows.OpenSpec.upto Rows.stateTellsSpec).at F).post enc Tryz.prog Tryz.f3 false true false false) := by
  have hsome : (DataW.whole enc Tryz.prog ((laidWorld os).forCall (fun _ _ => 0) ⟨#[], #[.agg #[.bool false, .slice none 0 0, .slice none 0 0], .agg #[.bool false, .slice none 0 0, .slice none 0 0], .agg #[.string ByteArray.empty, .int .i64 0, .int .i64 0]], []⟩).memory Tryz.f3.params.toList Rows.stateTellsSpec.vars false #[.agg #[.bool false, .slice none 0 0, .slice none 0 0], .agg #[.bool false, .slice none 0 0, .slice none 0 0], .agg #[.string ByteArray.empty, .int .i64 0, .int .i64 0]].toList 8).isSome = true := by kernel_rfl
  obtain ⟨x, hx⟩ := Option.isSome_iff_exists.1 hsome
  obtain ⟨ds0, gs0, places⟩ := x
  have hall : (DataW.whole enc Tryz.prog ((laidWorld os).forCall (fun _ _ => 0) ⟨#[], #[.agg #[.bool false, .slice none 0 0, .slice none 0 0], .agg #[.bool false, .slice none 0 0, .slice none 0 0], .agg #[.string ByteArray.empty, .int .i64 0, .int .i64 0]], []⟩).memory Tryz.f3.params.toList Rows.stateTellsSpec.vars false #[.agg #[.bool false, .slice none 0 0, .slice none 0 0], .agg #[.bool false, .slice none 0 0, .slice none 0 0], .agg #[.string ByteArray.empty, .int .i64 0, .int .i64 0]].toList 8).all (fun x => Rows.uptoSmall H (x.1 ++ x.2.1)) = true := by kernel_rfl
  have hsm : Rows.uptoSmall H (ds0 ++ gs0) = true := by rw [hx] at hall; exact hall
  refine returnsInHanded_of_row (C := Tryz.checked) (s := Rows.OpenSpec.upto Rows.stateTellsSpec) own started (by kernel_rfl) Tryz.func3
    (witness_row_at (enc := enc) (C := Tryz.checked) false (laidWorld os) #[.agg #[.bool false, .slice none 0 0, .slice none 0 0], .agg #[.bool false, .slice none 0 0, .slice none 0 0], .agg #[.string ByteArray.empty, .int .i64 0, .int .i64 0]] rfl (by kernel_rfl) (by kernel_rfl) (by kernel_rfl)
      (OpenSpec.preRow_of_cond 8 hx (by kernel_rfl) (fun k hk => by cases hk; exact hsm) (by kernel_rfl) (laid_met os))) ?_
  intro W base args ds gs before hval hW _ hcond _ hL _ _
  have hwt : InrN 8589934592 (DataW.weightsEach Tryz.prog Tryz.f3.params.toList ds) := inr8 (by kernel_rfl) (by kernel_rfl) (hcond _ rfl)
  refine rowContractGN (s := Rows.stateTellsSpec) (bytesAtom (by kernel_rfl)) (law08_StateTells_spec K) laidOut (ArgsOk.of_b (by kernel_rfl)) (readable_of_b (by kernel_rfl)) (rt := 4) (by kernel_rfl) (by kernel_rfl) rfl (fun ds hl => ?_) hval hW hwt (fun x h hb => tells8 x (txt_of h.1 hb.1)) (table hL)
  obtain ⟨d1, d2, d3, rfl⟩ : ∃ d1 d2 d3, ds = [d1, d2, d3] := by
    match ds, hl with
    | [d1, d2, d3], _ => exact ⟨d1, d2, d3, rfl⟩
  rfl
theorem said : Rows.StateTellsUptoSaid :=
  OpenClaim.holds_of_cond 3 Tryz.f3 rfl rfl rfl rfl rfl rfl rfl ⟨rfl, rfl, rfl, rfl, rfl⟩ rfl rfl rfl rfl rfl (by kernel_rfl) Tryz.func3 (by kernel_rfl)
    (of_decide_eq_true (by kernel_rfl)) (by unfold Func.isWrapper; first | (rw [if_pos (by decide +kernel)]; kernel_rfl) | (rw [if_neg (by decide +kernel)]; exact ⟨rfl, rfl⟩))
    (fun os started H enc _ F => by rw [OpenClaim.pre_eq_preRow]; exact lifted os started H enc F)
theorem plain (f : FuncId) (fn : Func) (hf : Tryz.pinned.checked.prog.funcNamed "protean/proteanlaw08.StateTells" = some f) (hfn : Tryz.pinned.checked.prog.funcs[f]? = some fn) :
    false = Tryz.pinned.checked.prog.looks [] ∧ ∀ (j : Nat) t, fn.params[j]? = some t → Tryz.pinned.checked.prog.wantsStandIn t = false := by
  obtain rfl : f = 3 := Option.some.inj ((show Tryz.prog.funcNamed "protean/proteanlaw08.StateTells" = some 3 by kernel_rfl).symm.trans hf) |>.symm
  obtain rfl : fn = Tryz.f3 := (Option.some.inj (Tryz.func3.symm.trans hfn)).symm
  refine ⟨by kernel_rfl, fun j t ht => ?_⟩
  have hall : (Tryz.f3.params.toList.all fun t => !Tryz.pinned.checked.prog.wantsStandIn t) = true := by kernel_rfl
  have := List.all_eq_true.1 hall t (Array.mem_toList_iff.2 (Array.mem_of_getElem? ht))
  simpa using this
theorem card : Rows.StateTellsUptoCardSaid :=
  Claim7.holds_tied_plain_at .later [] _ _ _ _ said (fun _ h => by cases h) (by kernel_rfl) (fun _ h => by cases h) stateTellsUpto_row_tie rfl ⟨rfl, rfl⟩ (by kernel_rfl) rfl plain (by kernel_rfl)
#print axioms card
end Go.Proofs.YtijheoafbhjcbaaGreatDoor.stateTellsUpto
namespace Go.Proofs.YtijheoafbhjcbaaGreatDoor
theorem stateTellsUpto_holds : Rows.StateTellsUptoCardSaid := stateTellsUpto.card
end Go.Proofs.YtijheoafbhjcbaaGreatDoor

/- Lemmas for the claim. -/
import Derived.Test.YtoicfdfjjnfgaaaDoorProg
import Derived.KernelRfl
import Derived.Test.YtoicfdfjjnfgaaaDoorG4
import Derived.Lib.Strings
import Derived.Lib.Slices
import Derived.Lib.Walk
import Derived.Lib.Bytealg
import Derived.Test.YtoicfdfjjnfgaaaDoorG1
import Derived.Laws.Strings
import Derived.Lib.ItoaLen
set_option linter.all false
section
open Go Go.PG Go.Proofs
set_option linter.all false
set_option maxRecDepth 1000000
set_option maxHeartbeats 4000000
abbrev T_api_Val : Ty := .st (.pair (.int .i64) (.int .i64))
abbrev T_api_Prop : Ty := .st (.pair .str T_api_Val)
abbrev T_api_Obj : Ty := .st (.pair (.slice T_api_Prop) T_api_Val)
abbrev T_proteanlaw19_Put : Ty := .st (.pair T_api_Val (.pair .str T_api_Val))
noncomputable def T : List (Nat × TyRow) := [(3, ⟨(.int .i64), 0, false, false⟩), (4, ⟨.bool, 0, false, false⟩), (9, ⟨.str, 0, false, false⟩), (25, ⟨T_api_Val, 0, true, false⟩), (31, ⟨(.slice T_api_Obj), 40, false, false⟩), (33, ⟨T_proteanlaw19_Put, 0, true, false⟩), (34, ⟨(.slice T_api_Prop), 32, false, false⟩), (36, ⟨T_api_Obj, 0, false, false⟩), (51, ⟨T_api_Prop, 0, true, false⟩), (83, ⟨.opq, 0, false, false⟩), (86, ⟨(.int .u64), 0, false, false⟩), (91, ⟨.opq, 0, false, false⟩), (97, ⟨(.int .u64), 0, false, false⟩)]
theorem mixedOk : Tryd.prog.follows .mixedOrders = true := by kernel_rfl
theorem tabOk : tysB Tryd.prog T = true := by kernel_rfl
abbrev GG (w : World) : Prop := Lib.TabIs Tryd.prog w "internal/strconv.uint64pow10" .u64 Lib.pow10Tab
theorem f44_at : Tryd.prog.funcs[44]? = some Tryd.f44 := by kernel_rfl
theorem f44_ok : (Tryd.f44.name != "runtime.NumGoroutine" && Tryd.f44.body.isSome) = true := by kernel_rfl
theorem f57_at : Tryd.prog.funcs[57]? = some Tryd.f57 := by kernel_rfl
theorem f57_ok : (Tryd.f57.name != "runtime.NumGoroutine" && Tryd.f57.body.isSome) = true := by kernel_rfl
theorem f41_at : Tryd.prog.funcs[41]? = some Tryd.f41 := by kernel_rfl
theorem f41_ok : (Tryd.f41.name != "runtime.NumGoroutine" && Tryd.f41.body.isSome) = true := by kernel_rfl
theorem f16_at : Tryd.prog.funcs[16]? = some Tryd.f16 := by kernel_rfl
theorem f16_ok : (Tryd.f16.name != "runtime.NumGoroutine" && Tryd.f16.body.isSome) = true := by kernel_rfl
theorem f27_at : Tryd.prog.funcs[27]? = some Tryd.f27 := by kernel_rfl
theorem f27_ok : (Tryd.f27.name != "runtime.NumGoroutine" && Tryd.f27.body.isSome) = true := by kernel_rfl
theorem f25_at : Tryd.prog.funcs[25]? = some Tryd.f25 := by kernel_rfl
theorem f25_ok : (Tryd.f25.name != "runtime.NumGoroutine" && Tryd.f25.body.isSome) = true := by kernel_rfl
theorem f56_at : Tryd.prog.funcs[56]? = some Tryd.f56 := by kernel_rfl
theorem f56_ok : (Tryd.f56.name != "runtime.NumGoroutine" && Tryd.f56.body.isSome) = true := by kernel_rfl
theorem f39_at : Tryd.prog.funcs[39]? = some Tryd.f39 := by kernel_rfl
theorem f39_ok : (Tryd.f39.name != "runtime.NumGoroutine" && Tryd.f39.body.isSome) = true := by kernel_rfl
theorem f18_at : Tryd.prog.funcs[18]? = some Tryd.f18 := by kernel_rfl
theorem f18_ok : (Tryd.f18.name != "runtime.NumGoroutine" && Tryd.f18.body.isSome) = true := by kernel_rfl
theorem f20_at : Tryd.prog.funcs[20]? = some Tryd.f20 := by kernel_rfl
theorem f20_ok : (Tryd.f20.name != "runtime.NumGoroutine" && Tryd.f20.body.isSome) = true := by kernel_rfl
theorem f22_at : Tryd.prog.funcs[22]? = some Tryd.f22 := by kernel_rfl
theorem f22_ok : (Tryd.f22.name != "runtime.NumGoroutine" && Tryd.f22.body.isSome) = true := by kernel_rfl
theorem f29_at : Tryd.prog.funcs[29]? = some Tryd.f29 := by kernel_rfl
theorem f29_ok : (Tryd.f29.name != "runtime.NumGoroutine" && Tryd.f29.body.isSome) = true := by kernel_rfl
theorem f36_at : Tryd.prog.funcs[36]? = some Tryd.f36 := by kernel_rfl
theorem f36_ok : (Tryd.f36.name != "runtime.NumGoroutine" && Tryd.f36.body.isSome) = true := by kernel_rfl
theorem f37_at : Tryd.prog.funcs[37]? = some Tryd.f37 := by kernel_rfl
theorem f37_ok : (Tryd.f37.name != "runtime.NumGoroutine" && Tryd.f37.body.isSome) = true := by kernel_rfl
theorem f38_at : Tryd.prog.funcs[38]? = some Tryd.f38 := by kernel_rfl
theorem f38_ok : (Tryd.f38.name != "runtime.NumGoroutine" && Tryd.f38.body.isSome) = true := by kernel_rfl
theorem f17_at : Tryd.prog.funcs[17]? = some Tryd.f17 := by kernel_rfl
theorem f17_ok : (Tryd.f17.name != "runtime.NumGoroutine" && Tryd.f17.body.isSome) = true := by kernel_rfl
theorem f28_at : Tryd.prog.funcs[28]? = some Tryd.f28 := by kernel_rfl
theorem f28_ok : (Tryd.f28.name != "runtime.NumGoroutine" && Tryd.f28.body.isSome) = true := by kernel_rfl
theorem f26_at : Tryd.prog.funcs[26]? = some Tryd.f26 := by kernel_rfl
theorem f26_ok : (Tryd.f26.name != "runtime.NumGoroutine" && Tryd.f26.body.isSome) = true := by kernel_rfl
theorem f40_at : Tryd.prog.funcs[40]? = some Tryd.f40 := by kernel_rfl
theorem f40_ok : (Tryd.f40.name != "runtime.NumGoroutine" && Tryd.f40.body.isSome) = true := by kernel_rfl
theorem f19_at : Tryd.prog.funcs[19]? = some Tryd.f19 := by kernel_rfl
theorem f19_ok : (Tryd.f19.name != "runtime.NumGoroutine" && Tryd.f19.body.isSome) = true := by kernel_rfl
theorem f43_at : Tryd.prog.funcs[43]? = some Tryd.f43 := by kernel_rfl
theorem f43_ok : (Tryd.f43.name != "runtime.NumGoroutine" && Tryd.f43.body.isSome) = true := by kernel_rfl
theorem f21_at : Tryd.prog.funcs[21]? = some Tryd.f21 := by kernel_rfl
theorem f21_ok : (Tryd.f21.name != "runtime.NumGoroutine" && Tryd.f21.body.isSome) = true := by kernel_rfl
theorem f23_at : Tryd.prog.funcs[23]? = some Tryd.f23 := by kernel_rfl
theorem f23_ok : (Tryd.f23.name != "runtime.NumGoroutine" && Tryd.f23.body.isSome) = true := by kernel_rfl
theorem f31_at : Tryd.prog.funcs[31]? = some Tryd.f31 := by kernel_rfl
theorem f31_ok : (Tryd.f31.name != "runtime.NumGoroutine" && Tryd.f31.body.isSome) = true := by kernel_rfl
theorem f24_at : Tryd.prog.funcs[24]? = some Tryd.f24 := by kernel_rfl
theorem f24_ok : (Tryd.f24.name != "runtime.NumGoroutine" && Tryd.f24.body.isSome) = true := by kernel_rfl
theorem f61_at : Tryd.prog.funcs[61]? = some Tryd.f61 := by kernel_rfl
theorem f61_ok : (Tryd.f61.name != "runtime.NumGoroutine" && Tryd.f61.body.isSome) = true := by kernel_rfl
theorem f47_at : Tryd.prog.funcs[47]? = some Tryd.f47 := by kernel_rfl
theorem f47_ok : (Tryd.f47.name != "runtime.NumGoroutine" && Tryd.f47.body.isSome) = true := by kernel_rfl
theorem f30_at : Tryd.prog.funcs[30]? = some Tryd.f30 := by kernel_rfl
theorem f30_ok : (Tryd.f30.name != "runtime.NumGoroutine" && Tryd.f30.body.isSome) = true := by kernel_rfl
theorem f5_at : Tryd.prog.funcs[5]? = some Tryd.f5 := by kernel_rfl
theorem f71_at : Tryd.prog.funcs[71]? = some Tryd.f71 := by kernel_rfl
theorem f71_ok : (Tryd.f71.name != "runtime.NumGoroutine" && Tryd.f71.body.isSome) = true := by kernel_rfl
theorem f72_at : Tryd.prog.funcs[72]? = some Tryd.f72 := by kernel_rfl
theorem f72_ok : (Tryd.f72.name != "runtime.NumGoroutine" && Tryd.f72.body.isSome) = true := by kernel_rfl
theorem f45_at : Tryd.prog.funcs[45]? = some Tryd.f45 := by kernel_rfl
theorem f45_ok : (Tryd.f45.name != "runtime.NumGoroutine" && Tryd.f45.body.isSome) = true := by kernel_rfl
theorem f59_at : Tryd.prog.funcs[59]? = some Tryd.f59 := by kernel_rfl
theorem f59_ok : (Tryd.f59.name != "runtime.NumGoroutine" && Tryd.f59.body.isSome) = true := by kernel_rfl
theorem f46_at : Tryd.prog.funcs[46]? = some Tryd.f46 := by kernel_rfl
theorem f46_ok : (Tryd.f46.name != "runtime.NumGoroutine" && Tryd.f46.body.isSome) = true := by kernel_rfl
theorem f73_at : Tryd.prog.funcs[73]? = some Tryd.f73 := by kernel_rfl
theorem f73_ok : (Tryd.f73.name != "runtime.NumGoroutine" && Tryd.f73.body.isSome) = true := by kernel_rfl
noncomputable def codes : List (Nat × Func × List (Nat × Hint)) := [(71, Tryd.f71, [(3, ⟨[.var 9 (.d (.int .i64)), .var 10 (.d (.int .i64))], [], (some (0, [.var 9 (.d (.int .i64))]))⟩)]), (72, Tryd.f72, []), (45, Tryd.f45, []), (59, Tryd.f59, [])]
theorem codesOk : CodesOk Tryd.prog codes := .cons f71_at f71_ok <| .cons f72_at f72_ok <| .cons f45_at f45_ok <| .cons f59_at f59_ok <| .nil
theorem ggKeep : ∀ w w' : World, GG w → Go.RowKit.Below w.heap.size w w' → GG w' := fun w w' h hb => by
  show World.var? Tryd.prog w' _ = _
  have h : World.var? Tryd.prog w _ = _ := h
  unfold World.var? at h ⊢
  cases hg : Tryd.prog.globalNamed "internal/strconv.uint64pow10" with
  | none => rw [hg] at h; cases h
  | some g =>
    rw [hg] at h
    simp only [Option.bind_some] at h ⊢
    have hlt : g < w.heap.size := by
      rcases Nat.lt_or_ge g w.heap.size with q | q
      · exact q
      · rw [Array.getElem?_eq_none q] at h; cases h
    rw [hb.block g hlt]
    exact h
def strconv_Itoa (_k : Nat) (n : Int) : Option ByteArray := if -9223372036854775808 ≤ n ∧ n ≤ 9223372036854775807 then some ⟨(Lib.itoa n).toArray⟩ else none
theorem strconv_Itoa_spec (k : Nat) : SpecOk Tryd.prog GG 46 ⟨(.int .i64), .str, strconv_Itoa k⟩ := by
  intro Z w vals x r hG _ hx ha
  simp only [strconv_Itoa] at hx
  split at hx
  case isFalse => cases hx
  rename_i hb
  injection hx with hx
  simp only [argAV, RepT] at ha
  obtain ⟨v1, e1, h1⟩ := ha
  have h1 := repV_int (k := .i64) (n := x) (by simpa only [RepV] using h1)
  subst h1
  obtain rfl : vals = #[.int .i64 x] := Array.toList_inj.1 (by simpa using e1)
  refine (Tryd.strconv_Itoa x hb.1 hb.2 w hG).mono fun e w' ⟨he, k, os, hw⟩ => ⟨_, he, ?_, ?_⟩
  · rw [hw]
    refine ⟨rfl, rfl, rfl, ?_, fun j hj => ?_⟩
    · show w.heap.size ≤ (w.heap ++ os).size
      simp
    · show (w.heap ++ os)[j]? = w.heap[j]?
      exact Array.getElem?_append_left hj
  · rw [← hx]; simp [resAV, RepV, RepD, isSt]
def strings_Compare (_k : Nat) (x : ByteArray × ByteArray) : Option Int := some (Lib.compareBytes x.1.data.toList x.2.data.toList)
section
open Go.RowKit
theorem cmpIn (a b : ByteArray) (w : World) : Calls Tryd.prog 79 #[.string a, .string b] w fun e w' => e = .returned (.int .i64 (Lib.compareBytes a.data.toList b.data.toList)) ∧ w' = w := by
  go_enter Tryd.func79, Tryd.ntmps79
  go_wp2
  rw [run_callFunc_extern Tryd.func85 (by kernel_rfl) (by kernel_rfl) (by kernel_rfl) (e := Extern.BytealgCompare.compare) (by kernel_rfl), Lib.run_compareString]
  simp only [Result.andThen]
  rw [Oper.upon_value]
  go_wp2
  go_ret
  exact ⟨rfl, rfl⟩
theorem cmpOut (a b : ByteArray) (w : World) : Calls Tryd.prog 73 #[.string a, .string b] w fun e w' => e = .returned (.int .i64 (Lib.compareBytes a.data.toList b.data.toList)) ∧ w' = w := by
  go_enter Tryd.func73, Tryd.ntmps73
  go_wp2_with (go_at_call 79; refine (cmpIn _ _ _).mono ?_; rintro e w' ⟨rfl, rfl⟩)
  go_ret
  exact ⟨rfl, rfl⟩
end
theorem strings_Compare_spec (k : Nat) : SpecOk Tryd.prog GG 73 ⟨(.pair .str .str), (.int .i64), strings_Compare k⟩ := by
  intro Z w vals x r _ _ hx ha
  have hx : Lib.compareBytes x.1.data.toList x.2.data.toList = r := by simpa [strings_Compare] using hx
  simp only [argAV, RepT] at ha
  obtain ⟨v1, l1, e1, h1, h2⟩ := ha
  obtain ⟨v2, rfl, h2⟩ := h2
  have h1 := repV_str h1
  have h2 : v2 = .string x.2 := repV_str (c := cz Z w) (by simpa only [RepV] using h2)
  subst h1; subst h2
  obtain rfl : vals = #[.string x.1, .string x.2] := Array.toList_inj.1 (by simpa using e1)
  refine (cmpOut x.1 x.2 w).mono fun e w' ⟨he, hw⟩ => ⟨_, he, ?_, ?_⟩
  · rw [hw]; exact Go.RowKit.Below.refl _ _
  · rw [hx]; simp [resAV, RepV, RepD, isSt]
theorem f58_at : Tryd.prog.funcs[58]? = some Tryd.f58 := by kernel_rfl
theorem f58_ok : (Tryd.f58.name != "runtime.NumGoroutine" && Tryd.f58.body.isSome) = true := by kernel_rfl
theorem insOk : InssOk Tryd.prog GG [(58, T_api_Prop, 32)] := .cons (InsP.ins_ok rfl) ⟨51, okB_spec (by kernel_rfl)⟩ f58_at f58_ok .nil
theorem f42_at : Tryd.prog.funcs[42]? = some Tryd.f42 := by kernel_rfl
theorem f42_ok : (Tryd.f42.name != "runtime.NumGoroutine" && Tryd.f42.body.isSome) = true := by kernel_rfl
noncomputable def codesS : List (Nat × Func × List (Nat × Hint)) := [(71, Tryd.f71, [(3, ⟨[.var 9 (.d (.int .i64)), .var 10 (.d (.int .i64))], [], (some (0, [.var 9 (.d (.int .i64))]))⟩)]), (72, Tryd.f72, []), (45, Tryd.f45, []), (59, Tryd.f59, []), (41, Tryd.f41, [(3, ⟨[.var 10 (.d (.int .i64)), .box 3 [] (.p (.o T_api_Prop) (.p (.d (.int .i64)) (.p (.d .bool) (.d (tieL T_api_Prop T_api_Val)))))], [], (some (0, [.box 3 [] (.p (.o T_api_Prop) (.p (.d (.int .i64)) (.p (.d .bool) (.d (tieL T_api_Prop T_api_Val)))))]))⟩)]), (42, Tryd.f42, [])]
theorem codesSOk : CodesOk Tryd.prog codesS := .cons f71_at f71_ok <| .cons f72_at f72_ok <| .cons f45_at f45_ok <| .cons f59_at f59_ok <| .cons f41_at f41_ok <| .cons f42_at f42_ok <| .nil
noncomputable abbrev EN (k : Nat) (sp : List (Nat × Go.PG.Spec)) : Go.PG.Env := { T := T, specs := sp, codes := codes, k := k }
noncomputable def slices_Clone_api_Prop_api_Prop : (k : Nat) → (Ty.D (.slice T_api_Prop)) → Option (Ty.D (.slice T_api_Prop)) := fun (k : Nat) (x : T_api_Prop.slice.D) => P.cond (P.ilt ((0 : Int)) (P.len x)) (P.cond (P.not true) (some []) (P.cond (P.room (P.add (P.len (P.nil (ByteArray × Int × Int))) (P.len x)) 32) (some (P.app [] x)) none)) (P.amb (some []) (P.cond (P.room (P.add (P.len (P.nil (ByteArray × Int × Int))) (P.len x)) 32) (some (P.app [] x)) none))
theorem slices_Clone_api_Prop_api_Prop_eq (k : Nat) (x : (Ty.D (.slice T_api_Prop))) : evFn (EN k []) 6 Tryd.f44 [] (.slice T_api_Prop) (.slice T_api_Prop) x = slices_Clone_api_Prop_api_Prop k x := by kernel_rfl
theorem slices_Clone_api_Prop_api_Prop_spec (k : Nat) : SpecOk Tryd.prog GG 44 ⟨(.slice T_api_Prop), (.slice T_api_Prop), slices_Clone_api_Prop_api_Prop k⟩ :=
  fn_spec (envOk (E := EN k []) tabOk (.nil) codesOk mixedOk ggKeep) f44_at (fun x => (slices_Clone_api_Prop_api_Prop_eq k x).symm)
theorem slices_Clone_api_Prop_api_Prop_eqO (k : Nat) (x : (Ty.D (.slice T_api_Prop))) : evFnO (EN k []) 6 Tryd.f44 [] (.slice T_api_Prop) T_api_Prop x = slices_Clone_api_Prop_api_Prop k x := by kernel_rfl
theorem slices_Clone_api_Prop_api_Prop_ospec (k : Nat) : OSpecOk Tryd.prog GG 44 ⟨(.slice T_api_Prop), T_api_Prop, slices_Clone_api_Prop_api_Prop k⟩ :=
  fn_ospec (envOk (E := EN k []) tabOk (.nil) codesOk mixedOk ggKeep) f44_at (fun x => (slices_Clone_api_Prop_api_Prop_eqO k x).symm)
noncomputable def slices_Clone_api_Obj_api_Obj : (k : Nat) → (Ty.D (.slice T_api_Obj)) → Option (Ty.D (.slice T_api_Obj)) := fun (k : Nat) (x : T_api_Obj.slice.D) => P.cond (P.ilt ((0 : Int)) (P.len x)) (P.cond (P.not true) (some []) (P.cond (P.room (P.add (P.len (P.nil (List (ByteArray × Int × Int) × Int × Int))) (P.len x)) 40) (some (P.app [] x)) none)) (P.amb (some []) (P.cond (P.room (P.add (P.len (P.nil (List (ByteArray × Int × Int) × Int × Int))) (P.len x)) 40) (some (P.app [] x)) none))
theorem slices_Clone_api_Obj_api_Obj_eqO (k : Nat) (x : (Ty.D (.slice T_api_Obj))) : evFnO (EN k []) 6 Tryd.f57 [] (.slice T_api_Obj) T_api_Obj x = slices_Clone_api_Obj_api_Obj k x := by kernel_rfl
theorem slices_Clone_api_Obj_api_Obj_ospec (k : Nat) : OSpecOk Tryd.prog GG 57 ⟨(.slice T_api_Obj), T_api_Obj, slices_Clone_api_Obj_api_Obj k⟩ :=
  fn_ospec (envOk (E := EN k []) tabOk (.nil) codesOk mixedOk ggKeep) f57_at (fun x => (slices_Clone_api_Obj_api_Obj_eqO k x).symm)
noncomputable def store_copied : (k : Nat) → (Ty.D (.slice T_api_Obj)) → Option (Ty.D (.slice T_api_Obj)) := fun (k : Nat) (x : T_api_Obj.slice.D) => P.bind (slices_Clone_api_Obj_api_Obj k x) fun (r : List (List (ByteArray × Int × Int) × Int × Int)) => P.bind (P.iter k (fun (y : Int × List (List (ByteArray × Int × Int) × Int × Int)) => P.cond (P.ilt y.fst (P.len r)) (P.cond (P.inb y.fst (P.len y.snd)) (P.bind (slices_Clone_api_Prop_api_Prop k (P.get y.snd y.fst ([], (0 : Int), (0 : Int))).fst) fun (r : List (ByteArray × Int × Int)) => P.cond (P.inb y.fst (P.len y.snd)) (some (Sum.inl (P.wrap IntKind.i64 (P.add y.fst ((1 : Int))), P.set y.snd y.fst (r, (P.get y.snd y.fst ([], (0 : Int), (0 : Int))).snd)))) none) none) (some (Sum.inr (Sum.inl y.snd)))) ((0 : Int), r)) (P.either (fun (z : List (List (ByteArray × Int × Int) × Int × Int)) => some z) fun (r : List (List (ByteArray × Int × Int) × Int × Int)) => some r)
noncomputable abbrev EN41 (k : Nat) (sp : List (Nat × Go.PG.Spec)) : Go.PG.Env := { T := T, specs := sp, codes := codes, k := k, ospecs := [(57, ⟨(.slice T_api_Obj), T_api_Obj, slices_Clone_api_Obj_api_Obj k⟩)] }
theorem store_copied_eqO (k : Nat) (x : (Ty.D (.slice T_api_Obj))) : evFnO (EN41 k [(44, ⟨(.slice T_api_Prop), (.slice T_api_Prop), slices_Clone_api_Prop_api_Prop k⟩)]) 6 Tryd.f41 [(3, ⟨[.var 10 (.d (.int .i64)), .cel 3 [] (.st (.pair (.slice (.st (.pair .str (.st (.pair (.int .i64) (.int .i64)))))) (.st (.pair (.int .i64) (.int .i64)))))], [], (some (0, [.cel 3 [] (.st (.pair (.slice (.st (.pair .str (.st (.pair (.int .i64) (.int .i64)))))) (.st (.pair (.int .i64) (.int .i64)))))]))⟩)] (.slice T_api_Obj) T_api_Obj x = store_copied k x := by kernel_rfl
theorem store_copied_ospec (k : Nat) : OSpecOk Tryd.prog GG 41 ⟨(.slice T_api_Obj), T_api_Obj, store_copied k⟩ :=
  fn_ospec (envOk (E := EN41 k [(44, ⟨(.slice T_api_Prop), (.slice T_api_Prop), slices_Clone_api_Prop_api_Prop k⟩)]) tabOk (.cons (slices_Clone_api_Prop_api_Prop_spec k) f44_at f44_ok <| .nil) codesOk mixedOk ggKeep (ho := .cons (slices_Clone_api_Obj_api_Obj_ospec k) f57_at f57_ok <| .nil)) f41_at (fun x => (store_copied_eqO k x).symm)
noncomputable def ref19_Small : (k : Nat) → (Ty.D (.slice T_api_Obj)) → Option (Ty.D .bool) := fun (k : Nat) (x : T_api_Obj.slice.D) => P.bind (P.iter k (fun (y : Int) => P.cond (P.ilt y (P.len x)) (P.cond (P.inb y (P.len x)) (P.cond (P.ilt ((60 : Int)) (P.len (P.get x y ([], (0 : Int), (0 : Int))).fst)) (some (Sum.inr (Sum.inr false))) (some (Sum.inl (P.wrap IntKind.i64 (P.add y ((1 : Int))))))) none) (some (Sum.inr (Sum.inl PUnit.unit)))) ((0 : Int))) (P.either (fun (z : PUnit) => some (P.ile (P.len x) ((100 : Int)))) fun (r : Bool) => some r)
theorem ref19_Small_eq (k : Nat) (x : (Ty.D (.slice T_api_Obj))) : evFn (EN k []) 6 Tryd.f16 [(2, ⟨[.var 3 (.d (.int .i64))], [], (some (0, []))⟩)] (.slice T_api_Obj) .bool x = ref19_Small k x := by kernel_rfl
theorem ref19_Small_spec (k : Nat) : SpecOk Tryd.prog GG 16 ⟨(.slice T_api_Obj), .bool, ref19_Small k⟩ :=
  fn_spec (envOk (E := EN k []) tabOk (.nil) codesOk mixedOk ggKeep) f16_at (fun x => (ref19_Small_eq k x).symm)
noncomputable def store_Right : (k : Nat) → (Ty.D (.pair (.slice T_api_Obj) T_api_Val)) → Option (Ty.D .bool) := fun (k : Nat) (x : (T_api_Obj.slice.pair T_api_Val).D) => P.cond (P.ieq x.snd.fst ((0 : Int))) (some (P.ieq x.snd.snd ((0 : Int)))) (P.cond (P.ieq x.snd.fst ((1 : Int))) (P.cond (P.ieq x.snd.snd ((0 : Int))) (some true) (some (P.ieq x.snd.snd ((1 : Int))))) (P.cond (P.ieq x.snd.fst ((2 : Int))) (some true) (P.cond (P.ieq x.snd.fst ((3 : Int))) (some (P.ile ((0 : Int)) x.snd.snd)) (P.cond (P.ieq x.snd.fst ((4 : Int))) (P.cond (P.ile ((0 : Int)) x.snd.snd) (some (P.ilt x.snd.snd (P.len x.fst))) (some false)) (some false)))))
theorem store_Right_eq (k : Nat) (x : (Ty.D (.pair (.slice T_api_Obj) T_api_Val))) : evFn (EN k []) 6 Tryd.f27 [] (.pair (.slice T_api_Obj) T_api_Val) .bool x = store_Right k x := by kernel_rfl
theorem store_Right_spec (k : Nat) : SpecOk Tryd.prog GG 27 ⟨(.pair (.slice T_api_Obj) T_api_Val), .bool, store_Right k⟩ :=
  fn_spec (envOk (E := EN k []) tabOk (.nil) codesOk mixedOk ggKeep) f27_at (fun x => (store_Right_eq k x).symm)
noncomputable def store_May : (k : Nat) → (Ty.D (.slice T_api_Obj)) → Option (Ty.D .bool) := fun (k : Nat) (x : T_api_Obj.slice.D) => P.bind (P.iter k (fun (y : Int) => P.cond (P.ilt y (P.len x)) (P.cond (P.inb y (P.len x)) (P.bind (P.iter k (fun (y_1 : Int) => P.cond (P.ilt y_1 (P.len (P.get x y ([], (0 : Int), (0 : Int))).fst)) (P.cond (P.inb y_1 (P.len (P.get x y ([], (0 : Int), (0 : Int))).fst)) (P.bind (store_Right k (x, (P.get (P.get x y ([], (0 : Int), (0 : Int))).fst y_1 ((ByteArray.mk #[]), (0 : Int), (0 : Int))).snd)) fun (r : Bool) => P.cond (P.not r) (some (Sum.inr (Sum.inr (Sum.inr (Sum.inr false))))) (P.cond (P.ilt ((0 : Int)) y_1) (P.cond (P.inb (P.wrap IntKind.i64 (P.sub y_1 ((1 : Int)))) (P.len (P.get x y ([], (0 : Int), (0 : Int))).fst)) (P.cond (P.not (P.slt (P.get (P.get x y ([], (0 : Int), (0 : Int))).fst (P.wrap IntKind.i64 (P.sub y_1 ((1 : Int)))) ((ByteArray.mk #[]), (0 : Int), (0 : Int))).fst (P.get (P.get x y ([], (0 : Int), (0 : Int))).fst y_1 ((ByteArray.mk #[]), (0 : Int), (0 : Int))).fst)) (some (Sum.inr (Sum.inr (Sum.inr (Sum.inr false))))) (some (Sum.inl (P.wrap IntKind.i64 (P.add y_1 ((1 : Int))))))) none) (some (Sum.inl (P.wrap IntKind.i64 (P.add y_1 ((1 : Int)))))))) none) (some (Sum.inr (Sum.inl PUnit.unit)))) ((0 : Int))) (P.either (fun (z : PUnit) => P.cond (P.not (P.and (P.ieq (P.get x y ([], (0 : Int), (0 : Int))).snd.fst ((0 : Int))) (P.ieq (P.get x y ([], (0 : Int), (0 : Int))).snd.snd ((0 : Int))))) (P.cond (P.not (P.ieq (P.get x y ([], (0 : Int), (0 : Int))).snd.fst ((4 : Int)))) (some (Sum.inr (Sum.inr false))) (P.cond (P.ilt (P.get x y ([], (0 : Int), (0 : Int))).snd.snd ((0 : Int))) (some (Sum.inr (Sum.inr false))) (P.cond (P.ile y (P.get x y ([], (0 : Int), (0 : Int))).snd.snd) (some (Sum.inr (Sum.inr false))) (some (Sum.inl (P.wrap IntKind.i64 (P.add y ((1 : Int))))))))) (some (Sum.inl (P.wrap IntKind.i64 (P.add y ((1 : Int))))))) fun (r : Int ⊕ PUnit ⊕ Bool) => some r)) none) (some (Sum.inr (Sum.inl PUnit.unit)))) ((0 : Int))) (P.either (fun (z : PUnit) => some true) fun (r : Bool) => some r)
theorem store_May_eq (k : Nat) (x : (Ty.D (.slice T_api_Obj))) : evFn (EN k [(27, ⟨(.pair (.slice T_api_Obj) T_api_Val), .bool, store_Right k⟩)]) 6 Tryd.f25 [(2, ⟨[.var 9 (.d (.int .i64))], [], (some (0, []))⟩), (5, ⟨[.var 17 (.d (.int .i64))], [], (some (2, []))⟩)] (.slice T_api_Obj) .bool x = store_May k x := by kernel_rfl
theorem store_May_spec (k : Nat) : SpecOk Tryd.prog GG 25 ⟨(.slice T_api_Obj), .bool, store_May k⟩ :=
  fn_spec (envOk (E := EN k [(27, ⟨(.pair (.slice T_api_Obj) T_api_Val), .bool, store_Right k⟩)]) tabOk (.cons (store_Right_spec k) f27_at f27_ok <| .nil) codesOk mixedOk ggKeep) f25_at (fun x => (store_May_eq k x).symm)
noncomputable def store_find : (k : Nat) → (Ty.D (.pair T_api_Obj .str)) → Option (Ty.D (.pair (.int .i64) .bool)) := fun (k : Nat) (x : (T_api_Obj.pair Ty.str).D) => P.bind (P.iter k (fun (y : Int × Int) => P.cond (P.ilt y.fst y.snd) (P.cond (P.ile ((0 : Int)) ((1 : Int))) (P.cond (P.inb (P.wrap IntKind.i64 (P.shrk IntKind.u64 (P.wrap IntKind.u64 (P.wrap IntKind.i64 (P.add y.fst y.snd))) ((1 : Int)))) (P.len x.fst.fst)) (P.bind (strings_Compare k ((P.get x.fst.fst (P.wrap IntKind.i64 (P.shrk IntKind.u64 (P.wrap IntKind.u64 (P.wrap IntKind.i64 (P.add y.fst y.snd))) ((1 : Int)))) ((ByteArray.mk #[]), (0 : Int), (0 : Int))).fst, x.snd)) fun (r : Int) => P.cond (P.ilt r ((0 : Int))) (some (Sum.inl (P.wrap IntKind.i64 (P.add (P.wrap IntKind.i64 (P.shrk IntKind.u64 (P.wrap IntKind.u64 (P.wrap IntKind.i64 (P.add y.fst y.snd))) ((1 : Int)))) ((1 : Int))), y.snd))) (some (Sum.inl (y.fst, P.wrap IntKind.i64 (P.shrk IntKind.u64 (P.wrap IntKind.u64 (P.wrap IntKind.i64 (P.add y.fst y.snd))) ((1 : Int))))))) none) none) (some (Sum.inr (Sum.inl y.fst)))) ((0 : Int), P.len x.fst.fst)) (P.either (fun (z : Int) => P.cond (P.ilt z (P.len x.fst.fst)) (P.cond (P.inb z (P.len x.fst.fst)) (P.bind (strings_Compare k ((P.get x.fst.fst z ((ByteArray.mk #[]), (0 : Int), (0 : Int))).fst, x.snd)) fun (r : Int) => some (z, P.ieq r ((0 : Int)))) none) (some (z, false))) fun (r : Int × Bool) => some r)
theorem store_find_eq (k : Nat) (x : (Ty.D (.pair T_api_Obj .str))) : evFn (EN k [(73, ⟨(.pair .str .str), (.int .i64), strings_Compare k⟩)]) 6 Tryd.f56 [] (.pair T_api_Obj .str) (.pair (.int .i64) .bool) x = store_find k x := by kernel_rfl
theorem store_find_spec (k : Nat) : SpecOk Tryd.prog GG 56 ⟨(.pair T_api_Obj .str), (.pair (.int .i64) .bool), store_find k⟩ :=
  fn_spec (envOk (E := EN k [(73, ⟨(.pair .str .str), (.int .i64), strings_Compare k⟩)]) tabOk (.cons (strings_Compare_spec k) f73_at f73_ok <| .nil) codesOk mixedOk ggKeep) f56_at (fun x => (store_find_eq k x).symm)
noncomputable def store_Look : (k : Nat) → (Ty.D (.pair (.slice T_api_Obj) (.pair T_api_Val .str))) → Option (Ty.D (.pair T_api_Val .bool)) := fun (k : Nat) (x : (T_api_Obj.slice.pair (T_api_Val.pair Ty.str)).D) => P.bind (P.iter k (fun (y : Int × Int) => P.cond (P.ieq y.fst ((4 : Int))) (P.bind (store_Right k (x.fst, y)) fun (r : Bool) => P.cond r (P.cond (P.inb y.snd (P.len x.fst)) (P.bind (store_find k (P.get x.fst y.snd ([], (0 : Int), (0 : Int)), x.snd.snd)) fun (r : Int × Bool) => P.cond r.snd (P.cond (P.inb r.fst (P.len (P.get x.fst y.snd ([], (0 : Int), (0 : Int))).fst)) (some (Sum.inr (Sum.inr ((P.get (P.get x.fst y.snd ([], (0 : Int), (0 : Int))).fst r.fst ((ByteArray.mk #[]), (0 : Int), (0 : Int))).snd, true)))) none) (some (Sum.inl (P.get x.fst y.snd ([], (0 : Int), (0 : Int))).snd))) none) (some (Sum.inr (Sum.inl PUnit.unit)))) (some (Sum.inr (Sum.inl PUnit.unit)))) x.snd.fst) (P.either (fun (z : PUnit) => some (((0 : Int), (0 : Int)), false)) fun (r : (Int × Int) × Bool) => some r)
theorem store_Look_eq (k : Nat) (x : (Ty.D (.pair (.slice T_api_Obj) (.pair T_api_Val .str)))) : evFn (EN k [(27, ⟨(.pair (.slice T_api_Obj) T_api_Val), .bool, store_Right k⟩), (56, ⟨(.pair T_api_Obj .str), (.pair (.int .i64) .bool), store_find k⟩)]) 6 Tryd.f39 [(1, ⟨[.box 4 [] (.d (.st (.pair (.int .i64) (.int .i64))))], [6], (some (0, []))⟩)] (.pair (.slice T_api_Obj) (.pair T_api_Val .str)) (.pair T_api_Val .bool) x = store_Look k x := by kernel_rfl
theorem store_Look_spec (k : Nat) : SpecOk Tryd.prog GG 39 ⟨(.pair (.slice T_api_Obj) (.pair T_api_Val .str)), (.pair T_api_Val .bool), store_Look k⟩ :=
  fn_spec (envOk (E := EN k [(27, ⟨(.pair (.slice T_api_Obj) T_api_Val), .bool, store_Right k⟩), (56, ⟨(.pair T_api_Obj .str), (.pair (.int .i64) .bool), store_find k⟩)]) tabOk (.cons (store_Right_spec k) f27_at f27_ok <| .cons (store_find_spec k) f56_at f56_ok <| .nil) codesOk mixedOk ggKeep) f39_at (fun x => (store_Look_eq k x).symm)
noncomputable def store_Get : (k : Nat) → (Ty.D (.pair (.slice T_api_Obj) (.pair T_api_Val .str))) → Option (Ty.D (.pair T_api_Val .bool)) := fun (k : Nat) (x : (T_api_Obj.slice.pair (T_api_Val.pair Ty.str)).D) => P.bind (store_May k x.fst) fun (r : Bool) => P.cond (P.not r) (some (((0 : Int), (0 : Int)), false)) (P.bind (store_Look k (x.fst, x.snd.fst, x.snd.snd)) fun (r : (Int × Int) × Bool) => some (r.fst, r.snd))
theorem store_Get_eq (k : Nat) (x : (Ty.D (.pair (.slice T_api_Obj) (.pair T_api_Val .str)))) : evFn (EN k [(25, ⟨(.slice T_api_Obj), .bool, store_May k⟩), (39, ⟨(.pair (.slice T_api_Obj) (.pair T_api_Val .str)), (.pair T_api_Val .bool), store_Look k⟩)]) 6 Tryd.f18 [] (.pair (.slice T_api_Obj) (.pair T_api_Val .str)) (.pair T_api_Val .bool) x = store_Get k x := by kernel_rfl
theorem store_Get_spec (k : Nat) : SpecOk Tryd.prog GG 18 ⟨(.pair (.slice T_api_Obj) (.pair T_api_Val .str)), (.pair T_api_Val .bool), store_Get k⟩ :=
  fn_spec (envOk (E := EN k [(25, ⟨(.slice T_api_Obj), .bool, store_May k⟩), (39, ⟨(.pair (.slice T_api_Obj) (.pair T_api_Val .str)), (.pair T_api_Val .bool), store_Look k⟩)]) tabOk (.cons (store_May_spec k) f25_at f25_ok <| .cons (store_Look_spec k) f39_at f39_ok <| .nil) codesOk mixedOk ggKeep) f18_at (fun x => (store_Get_eq k x).symm)
noncomputable def store_Set : (k : Nat) → (Ty.D (.pair (.slice T_api_Obj) (.pair T_api_Val (.pair .str T_api_Val)))) → Option (Ty.D (.pair (.slice T_api_Obj) .bool)) := fun (k : Nat) (x : (T_api_Obj.slice.pair (T_api_Val.pair (Ty.str.pair T_api_Val))).D) => P.bind (store_May k x.fst) fun (r : Bool) => P.cond (P.not r) (some ([], false)) (P.cond (P.not (P.ieq x.snd.fst.fst ((4 : Int)))) (some ([], false)) (P.bind (store_Right k (x.fst, x.snd.fst)) fun (r : Bool) => P.cond (P.not r) (some ([], false)) (P.bind (store_Right k (x.fst, x.snd.snd.snd)) fun (r : Bool) => P.cond (P.not r) (some ([], false)) (P.bind (slices_Clone_api_Obj_api_Obj k x.fst) fun (r : List (List (ByteArray × Int × Int) × Int × Int)) => P.bind (P.iter k (fun (y : Int × List (ByteArray × Int × Int) × Int × Bool × List ((List (ByteArray × Int × Int) × Int × Int) × Option (List (ByteArray × Int × Int)))) => P.cond (P.ilt y.fst (P.len (P.twrap (γ := List (ByteArray × Int × Int)) r))) (P.cond (P.inb y.fst (P.len y.snd.snd.snd.snd)) (P.cond (P.not (P.and y.snd.snd.snd.fst (P.ieq y.fst y.snd.snd.fst))) (P.bind (slices_Clone_api_Prop_api_Prop k (P.tget y.snd.snd.snd.snd y.fst ([], (0 : Int), (0 : Int))).fst) fun (r : List (ByteArray × Int × Int)) => P.cond (P.inb y.fst (P.len y.snd.snd.snd.snd)) (P.cond (P.ieq y.fst y.snd.snd.fst) (some (Sum.inl (P.wrap IntKind.i64 (P.add y.fst ((1 : Int))), r, y.snd.snd.fst, true, y.snd.snd.snd.snd))) (some (Sum.inl (P.wrap IntKind.i64 (P.add y.fst ((1 : Int))), y.snd.fst, y.snd.snd.fst, y.snd.snd.snd.fst, P.tput y.snd.snd.snd.snd y.fst r ([], (0 : Int), (0 : Int)))))) none) none) none) (some (Sum.inr (Sum.inl (y.snd.fst, y.snd.snd.fst, y.snd.snd.snd.fst, y.snd.snd.snd.snd))))) ((0 : Int), [], x.snd.fst.snd, false, P.twrap (γ := List (ByteArray × Int × Int)) r)) (P.either (fun (z : List (ByteArray × Int × Int) × Int × Bool × List ((List (ByteArray × Int × Int) × Int × Int) × Option (List (ByteArray × Int × Int)))) => P.cond (P.inb x.snd.fst.snd (P.len z.snd.snd.snd)) (P.cond (P.and z.snd.snd.fst (P.ieq x.snd.fst.snd z.snd.fst)) (P.bind (store_find k ((z.fst, (P.tget z.snd.snd.snd x.snd.fst.snd ([], (0 : Int), (0 : Int))).snd), x.snd.snd.fst)) fun (r : Int × Bool) => P.cond r.snd (P.cond (P.and z.snd.snd.fst (P.ieq x.snd.fst.snd z.snd.fst)) (P.cond (P.inb r.fst (P.len z.fst)) (some (P.tres z.snd.snd.fst z.snd.fst z.snd.snd.snd (P.set z.fst r.fst ((P.get z.fst r.fst ((ByteArray.mk #[]), (0 : Int), (0 : Int))).fst, x.snd.snd.snd)) ([], (0 : Int), (0 : Int)), true)) none) none) (P.cond (P.and z.snd.snd.fst (P.ieq x.snd.fst.snd z.snd.fst)) (P.cond (P.ilt ((0 : Int)) (P.len [(x.snd.snd.fst, x.snd.snd.snd)])) (P.cond (P.cut ((0 : Int)) r.fst (P.len z.fst)) (P.cond (P.room (P.add (P.len z.fst) (P.len [(x.snd.snd.fst, x.snd.snd.snd)])) 32) (P.cond (P.ieq x.snd.fst.snd z.snd.fst) (some (P.tres true z.snd.fst z.snd.snd.snd (P.insAt z.fst r.fst [(x.snd.snd.fst, x.snd.snd.snd)]) ([], (0 : Int), (0 : Int)), true)) none) none) none) none) none)) none) none) fun (r : List (List (ByteArray × Int × Int) × Int × Int) × Bool) => some r)))))
noncomputable abbrev EN20 (k : Nat) (tn : Int) (sp : List (Nat × Go.PG.Spec)) : Go.PG.Env := { T := T, specs := sp, codes := codesS, k := k, ins := [(58, T_api_Prop, 32)], ties := some ⟨31, 36, T_api_Prop, T_api_Val, 57, tn, [17, 26, 35, 27, 30, 21, 44]⟩, ospecs := [(57, ⟨(.slice T_api_Obj), T_api_Obj, slices_Clone_api_Obj_api_Obj k⟩), (44, ⟨(.slice T_api_Prop), T_api_Prop, slices_Clone_api_Prop_api_Prop k⟩)] }
theorem store_Set_eq (k : Nat) (x : (Ty.D (.pair (.slice T_api_Obj) (.pair T_api_Val (.pair .str T_api_Val))))) : evFn (EN20 k (x.2.1.2) [(25, ⟨(.slice T_api_Obj), .bool, store_May k⟩), (27, ⟨(.pair (.slice T_api_Obj) T_api_Val), .bool, store_Right k⟩), (56, ⟨(.pair T_api_Obj .str), (.pair (.int .i64) .bool), store_find k⟩)]) 6 Tryd.f20 [] (.pair (.slice T_api_Obj) (.pair T_api_Val (.pair .str T_api_Val))) (.pair (.slice T_api_Obj) .bool) x = store_Set k x := by kernel_rfl
theorem store_Set_spec (k : Nat) : SpecOk Tryd.prog GG 20 ⟨(.pair (.slice T_api_Obj) (.pair T_api_Val (.pair .str T_api_Val))), (.pair (.slice T_api_Obj) .bool), store_Set k⟩ :=
  fn_specE (E := fun x : (Ty.D (.pair (.slice T_api_Obj) (.pair T_api_Val (.pair .str T_api_Val)))) => EN20 k (x.2.1.2) [(25, ⟨(.slice T_api_Obj), .bool, store_May k⟩), (27, ⟨(.pair (.slice T_api_Obj) T_api_Val), .bool, store_Right k⟩), (56, ⟨(.pair T_api_Obj .str), (.pair (.int .i64) .bool), store_find k⟩)]) (fun x => envOk (E := EN20 k (x.2.1.2) [(25, ⟨(.slice T_api_Obj), .bool, store_May k⟩), (27, ⟨(.pair (.slice T_api_Obj) T_api_Val), .bool, store_Right k⟩), (56, ⟨(.pair T_api_Obj .str), (.pair (.int .i64) .bool), store_find k⟩)]) tabOk (.cons (store_May_spec k) f25_at f25_ok <| .cons (store_Right_spec k) f27_at f27_ok <| .cons (store_find_spec k) f56_at f56_ok <| .nil) codesSOk mixedOk ggKeep (hj := insOk) (ho := .cons (slices_Clone_api_Obj_api_Obj_ospec k) f57_at f57_ok <| .cons (slices_Clone_api_Prop_api_Prop_ospec k) f44_at f44_ok <| .nil)) f20_at (fun x => (store_Set_eq k x).symm)
noncomputable def store_New : (k : Nat) → (Ty.D (.pair (.slice T_api_Obj) T_api_Obj)) → Option (Ty.D (.pair (.slice T_api_Obj) (.pair T_api_Val .bool))) := fun (k : Nat) (x : (T_api_Obj.slice.pair T_api_Obj).D) => P.bind (store_copied k x.fst) fun (r : List (List (ByteArray × Int × Int) × Int × Int)) => P.bind (slices_Clone_api_Prop_api_Prop k x.snd.fst) fun (r_1 : List (ByteArray × Int × Int)) => P.cond (P.room (P.add (P.len r) (P.len [(r_1, x.snd.snd)])) 40) (P.bind (store_May k (P.app r [(r_1, x.snd.snd)])) fun (r_2 : Bool) => P.cond (P.not r_2) (some ([], ((0 : Int), (0 : Int)), false)) (some (P.app r [(r_1, x.snd.snd)], ((4 : Int), P.len x.fst), true))) none
noncomputable abbrev EN22 (k : Nat) (sp : List (Nat × Go.PG.Spec)) : Go.PG.Env := { T := T, specs := sp, codes := codes, k := k, calm := [41, 44], ospecs := [(41, ⟨(.slice T_api_Obj), T_api_Obj, store_copied k⟩)] }
theorem store_New_eq (k : Nat) (x : (Ty.D (.pair (.slice T_api_Obj) T_api_Obj))) : evFn (EN22 k [(25, ⟨(.slice T_api_Obj), .bool, store_May k⟩), (44, ⟨(.slice T_api_Prop), (.slice T_api_Prop), slices_Clone_api_Prop_api_Prop k⟩)]) 6 Tryd.f22 [] (.pair (.slice T_api_Obj) T_api_Obj) (.pair (.slice T_api_Obj) (.pair T_api_Val .bool)) x = store_New k x := by kernel_rfl
theorem store_New_spec (k : Nat) : SpecOk Tryd.prog GG 22 ⟨(.pair (.slice T_api_Obj) T_api_Obj), (.pair (.slice T_api_Obj) (.pair T_api_Val .bool)), store_New k⟩ :=
  fn_spec (envOk (E := EN22 k [(25, ⟨(.slice T_api_Obj), .bool, store_May k⟩), (44, ⟨(.slice T_api_Prop), (.slice T_api_Prop), slices_Clone_api_Prop_api_Prop k⟩)]) tabOk (.cons (store_May_spec k) f25_at f25_ok <| .cons (slices_Clone_api_Prop_api_Prop_spec k) f44_at f44_ok <| .nil) codesOk mixedOk ggKeep (ho := .cons (store_copied_ospec k) f41_at f41_ok <| .nil)) f22_at (fun x => (store_New_eq k x).symm)
noncomputable def store_Text : (k : Nat) → (Ty.D T_api_Val) → Option (Ty.D .str) := fun (k : Nat) (x : T_api_Val.D) => P.cond (P.ieq x.fst ((0 : Int))) (some (ByteArray.mk #[110, 117, 108, 108])) (P.cond (P.ieq x.fst ((1 : Int))) (P.cond (P.not (P.ieq x.snd ((0 : Int)))) (some (ByteArray.mk #[116, 114, 117, 101])) (some (ByteArray.mk #[102, 97, 108, 115, 101]))) (P.cond (P.ieq x.fst ((2 : Int))) (P.bind (strconv_Itoa k x.snd) fun (r : ByteArray) => some r) (P.cond (P.ieq x.fst ((3 : Int))) (some (ByteArray.mk #[102, 117, 110])) (P.cond (P.ieq x.fst ((4 : Int))) (some (ByteArray.mk #[111, 98, 106])) (some (ByteArray.mk #[63]))))))
theorem store_Text_eq (k : Nat) (x : (Ty.D T_api_Val)) : evFn (EN k [(46, ⟨(.int .i64), .str, strconv_Itoa k⟩)]) 6 Tryd.f29 [] T_api_Val .str x = store_Text k x := by kernel_rfl
theorem store_Text_spec (k : Nat) : SpecOk Tryd.prog GG 29 ⟨T_api_Val, .str, store_Text k⟩ :=
  fn_spec (envOk (E := EN k [(46, ⟨(.int .i64), .str, strconv_Itoa k⟩)]) tabOk (.cons (strconv_Itoa_spec k) f46_at f46_ok <| .nil) codesOk mixedOk ggKeep) f29_at (fun x => (store_Text_eq k x).symm)
noncomputable def law19_two : (k : Nat) → (Ty.D .unit) → Option (Ty.D (.slice T_api_Obj)) := fun (k : Nat) (x : Ty.unit.D) => some [([((ByteArray.mk #[112]), (2 : Int), (1 : Int))], (0 : Int), (0 : Int)), ([], (4 : Int), (0 : Int))]
noncomputable abbrev EN36 (k : Nat) (sp : List (Nat × Go.PG.Spec)) : Go.PG.Env := { T := T, specs := sp, codes := codes, k := k, calm := [0, 1] }
theorem law19_two_eq (k : Nat) (x : (Ty.D .unit)) : evFn (EN36 k []) 6 Tryd.f36 [] .unit (.slice T_api_Obj) x = law19_two k x := by kernel_rfl
theorem law19_two_spec (k : Nat) : SpecOk Tryd.prog GG 36 ⟨.unit, (.slice T_api_Obj), law19_two k⟩ :=
  fn_spec (envOk (E := EN36 k []) tabOk (.nil) codesOk mixedOk ggKeep) f36_at (fun x => (law19_two_eq k x).symm)
noncomputable def law19_obj : (k : Nat) → (Ty.D (.int .i64)) → Option (Ty.D T_api_Val) := fun (k : Nat) (x : (Ty.int IntKind.i64).D) => some ((4 : Int), x)
theorem law19_obj_eq (k : Nat) (x : (Ty.D (.int .i64))) : evFn (EN k []) 6 Tryd.f37 [] (.int .i64) T_api_Val x = law19_obj k x := by kernel_rfl
theorem law19_obj_spec (k : Nat) : SpecOk Tryd.prog GG 37 ⟨(.int .i64), T_api_Val, law19_obj k⟩ :=
  fn_spec (envOk (E := EN k []) tabOk (.nil) codesOk mixedOk ggKeep) f37_at (fun x => (law19_obj_eq k x).symm)
noncomputable def law19_num : (k : Nat) → (Ty.D (.int .i64)) → Option (Ty.D T_api_Val) := fun (k : Nat) (x : (Ty.int IntKind.i64).D) => some ((2 : Int), x)
theorem law19_num_eq (k : Nat) (x : (Ty.D (.int .i64))) : evFn (EN k []) 6 Tryd.f38 [] (.int .i64) T_api_Val x = law19_num k x := by kernel_rfl
theorem law19_num_spec (k : Nat) : SpecOk Tryd.prog GG 38 ⟨(.int .i64), T_api_Val, law19_num k⟩ :=
  fn_spec (envOk (E := EN k []) tabOk (.nil) codesOk mixedOk ggKeep) f38_at (fun x => (law19_num_eq k x).symm)
noncomputable def law19_fixed : (k : Nat) → (Ty.D .unit) → Option (Ty.D .bool) := fun (k : Nat) (x : Ty.unit.D) => P.bind (law19_two k PUnit.unit) fun (r : List (List (ByteArray × Int × Int) × Int × Int)) => P.bind (law19_obj k ((1 : Int))) fun (r_1 : Int × Int) => P.bind (store_Get k (r, r_1, (ByteArray.mk #[112]))) fun (r : (Int × Int) × Bool) => P.bind (law19_two k PUnit.unit) fun (r_2 : List (List (ByteArray × Int × Int) × Int × Int)) => P.bind (law19_obj k ((1 : Int))) fun (r_3 : Int × Int) => P.bind (law19_num k ((2 : Int))) fun (r_4 : Int × Int) => P.bind (store_Set k (r_2, r_3, (ByteArray.mk #[112]), r_4)) fun (r_5 : List (List (ByteArray × Int × Int) × Int × Int) × Bool) => P.bind (law19_obj k ((1 : Int))) fun (r_6 : Int × Int) => P.bind (store_Get k (r_5.fst, r_6, (ByteArray.mk #[112]))) fun (r_7 : (Int × Int) × Bool) => P.bind (law19_obj k ((0 : Int))) fun (r_8 : Int × Int) => P.bind (store_Get k (r_5.fst, r_8, (ByteArray.mk #[112]))) fun (r_9 : (Int × Int) × Bool) => P.bind (law19_two k PUnit.unit) fun (r_10 : List (List (ByteArray × Int × Int) × Int × Int)) => P.bind (law19_obj k ((1 : Int))) fun (r_11 : Int × Int) => P.bind (store_New k (r_10, [], r_11)) fun (r_12 : List (List (ByteArray × Int × Int) × Int × Int) × (Int × Int) × Bool) => P.bind (law19_two k PUnit.unit) fun (r_13 : List (List (ByteArray × Int × Int) × Int × Int)) => P.bind (law19_obj k ((2 : Int))) fun (r_14 : Int × Int) => P.bind (store_New k (r_13, [], r_14)) fun (r_15 : List (List (ByteArray × Int × Int) × Int × Int) × (Int × Int) × Bool) => P.bind (law19_num k ((1 : Int))) fun (r_16 : Int × Int) => P.cond (P.and (P.ieq r.fst.fst r_16.fst) (P.ieq r.fst.snd r_16.snd)) (P.cond r.snd (P.cond r_5.snd (P.bind (law19_num k ((2 : Int))) fun (r : Int × Int) => P.cond (P.and (P.ieq r_7.fst.fst r.fst) (P.ieq r_7.fst.snd r.snd)) (P.bind (law19_num k ((1 : Int))) fun (r : Int × Int) => P.cond (P.and (P.ieq r_9.fst.fst r.fst) (P.ieq r_9.fst.snd r.snd)) (P.bind (law19_obj k ((2 : Int))) fun (r : Int × Int) => P.cond (P.and (P.ieq r_12.snd.fst.fst r.fst) (P.ieq r_12.snd.fst.snd r.snd)) (P.cond r_12.snd.snd (P.cond (P.not r_15.snd.snd) (P.bind (law19_two k PUnit.unit) fun (r : List (List (ByteArray × Int × Int) × Int × Int)) => P.bind (store_May k r) fun (r : Bool) => P.cond r (P.bind (law19_two k PUnit.unit) fun (r : List (List (ByteArray × Int × Int) × Int × Int)) => P.bind (law19_obj k ((1 : Int))) fun (r_17 : Int × Int) => P.bind (store_Right k (r, r_17)) fun (r : Bool) => P.cond r (P.bind (law19_num k ((-3 : Int))) fun (r : Int × Int) => P.bind (store_Text k r) fun (r : ByteArray) => P.cond (P.seq r (ByteArray.mk #[45, 51])) (P.bind (law19_obj k ((0 : Int))) fun (r : Int × Int) => P.bind (store_Text k r) fun (r : ByteArray) => some (P.seq r (ByteArray.mk #[111, 98, 106]))) (some false)) (some false)) (some false)) (some false)) (some false)) (some false)) (some false)) (some false)) (some false)) (some false)) (some false)
noncomputable abbrev EN17 (k : Nat) (sp : List (Nat × Go.PG.Spec)) : Go.PG.Env := { T := T, specs := sp, codes := codes, k := k, calm := [0, 1] }
theorem law19_fixed_eq (k : Nat) (x : (Ty.D .unit)) : evFn (EN17 k [(18, ⟨(.pair (.slice T_api_Obj) (.pair T_api_Val .str)), (.pair T_api_Val .bool), store_Get k⟩), (20, ⟨(.pair (.slice T_api_Obj) (.pair T_api_Val (.pair .str T_api_Val))), (.pair (.slice T_api_Obj) .bool), store_Set k⟩), (22, ⟨(.pair (.slice T_api_Obj) T_api_Obj), (.pair (.slice T_api_Obj) (.pair T_api_Val .bool)), store_New k⟩), (25, ⟨(.slice T_api_Obj), .bool, store_May k⟩), (27, ⟨(.pair (.slice T_api_Obj) T_api_Val), .bool, store_Right k⟩), (29, ⟨T_api_Val, .str, store_Text k⟩), (36, ⟨.unit, (.slice T_api_Obj), law19_two k⟩), (37, ⟨(.int .i64), T_api_Val, law19_obj k⟩), (38, ⟨(.int .i64), T_api_Val, law19_num k⟩)]) 6 Tryd.f17 [] .unit .bool x = law19_fixed k x := by kernel_rfl
theorem law19_fixed_spec (k : Nat) : SpecOk Tryd.prog GG 17 ⟨.unit, .bool, law19_fixed k⟩ :=
  fn_spec (envOk (E := EN17 k [(18, ⟨(.pair (.slice T_api_Obj) (.pair T_api_Val .str)), (.pair T_api_Val .bool), store_Get k⟩), (20, ⟨(.pair (.slice T_api_Obj) (.pair T_api_Val (.pair .str T_api_Val))), (.pair (.slice T_api_Obj) .bool), store_Set k⟩), (22, ⟨(.pair (.slice T_api_Obj) T_api_Obj), (.pair (.slice T_api_Obj) (.pair T_api_Val .bool)), store_New k⟩), (25, ⟨(.slice T_api_Obj), .bool, store_May k⟩), (27, ⟨(.pair (.slice T_api_Obj) T_api_Val), .bool, store_Right k⟩), (29, ⟨T_api_Val, .str, store_Text k⟩), (36, ⟨.unit, (.slice T_api_Obj), law19_two k⟩), (37, ⟨(.int .i64), T_api_Val, law19_obj k⟩), (38, ⟨(.int .i64), T_api_Val, law19_num k⟩)]) tabOk (.cons (store_Get_spec k) f18_at f18_ok <| .cons (store_Set_spec k) f20_at f20_ok <| .cons (store_New_spec k) f22_at f22_ok <| .cons (store_May_spec k) f25_at f25_ok <| .cons (store_Right_spec k) f27_at f27_ok <| .cons (store_Text_spec k) f29_at f29_ok <| .cons (law19_two_spec k) f36_at f36_ok <| .cons (law19_obj_spec k) f37_at f37_ok <| .cons (law19_num_spec k) f38_at f38_ok <| .nil) codesOk mixedOk ggKeep) f17_at (fun x => (law19_fixed_eq k x).symm)
noncomputable def ref19_Right : (k : Nat) → (Ty.D (.pair (.slice T_api_Obj) T_api_Val)) → Option (Ty.D .bool) := fun (k : Nat) (x : (T_api_Obj.slice.pair T_api_Val).D) => P.cond (P.ieq x.snd.fst ((0 : Int))) (some (P.ieq x.snd.snd ((0 : Int)))) (P.cond (P.ieq x.snd.fst ((1 : Int))) (P.cond (P.ieq x.snd.snd ((0 : Int))) (some true) (some (P.ieq x.snd.snd ((1 : Int))))) (P.cond (P.ieq x.snd.fst ((2 : Int))) (some true) (P.cond (P.ieq x.snd.fst ((3 : Int))) (some (P.ile ((0 : Int)) x.snd.snd)) (P.cond (P.ieq x.snd.fst ((4 : Int))) (P.cond (P.ile ((0 : Int)) x.snd.snd) (some (P.ilt x.snd.snd (P.len x.fst))) (some false)) (some false)))))
theorem ref19_Right_eq (k : Nat) (x : (Ty.D (.pair (.slice T_api_Obj) T_api_Val))) : evFn (EN k []) 6 Tryd.f28 [] (.pair (.slice T_api_Obj) T_api_Val) .bool x = ref19_Right k x := by kernel_rfl
theorem ref19_Right_spec (k : Nat) : SpecOk Tryd.prog GG 28 ⟨(.pair (.slice T_api_Obj) T_api_Val), .bool, ref19_Right k⟩ :=
  fn_spec (envOk (E := EN k []) tabOk (.nil) codesOk mixedOk ggKeep) f28_at (fun x => (ref19_Right_eq k x).symm)
noncomputable def ref19_May : (k : Nat) → (Ty.D (.slice T_api_Obj)) → Option (Ty.D .bool) := fun (k : Nat) (x : T_api_Obj.slice.D) => P.bind (P.iter k (fun (y : Int) => P.cond (P.ilt y (P.len x)) (P.cond (P.inb y (P.len x)) (P.bind (P.iter k (fun (y_1 : Int) => P.cond (P.ilt y_1 (P.len (P.get x y ([], (0 : Int), (0 : Int))).fst)) (P.cond (P.inb y_1 (P.len (P.get x y ([], (0 : Int), (0 : Int))).fst)) (P.bind (ref19_Right k (x, (P.get (P.get x y ([], (0 : Int), (0 : Int))).fst y_1 ((ByteArray.mk #[]), (0 : Int), (0 : Int))).snd)) fun (r : Bool) => P.cond (P.not r) (some (Sum.inr (Sum.inr (Sum.inr (Sum.inr false))))) (P.cond (P.ilt ((0 : Int)) y_1) (P.cond (P.inb (P.wrap IntKind.i64 (P.sub y_1 ((1 : Int)))) (P.len (P.get x y ([], (0 : Int), (0 : Int))).fst)) (P.cond (P.inb y_1 (P.len (P.get x y ([], (0 : Int), (0 : Int))).fst)) (P.cond (P.not (P.slt (P.get (P.get x y ([], (0 : Int), (0 : Int))).fst (P.wrap IntKind.i64 (P.sub y_1 ((1 : Int)))) ((ByteArray.mk #[]), (0 : Int), (0 : Int))).fst (P.get (P.get x y ([], (0 : Int), (0 : Int))).fst y_1 ((ByteArray.mk #[]), (0 : Int), (0 : Int))).fst)) (some (Sum.inr (Sum.inr (Sum.inr (Sum.inr false))))) (some (Sum.inl (P.wrap IntKind.i64 (P.add y_1 ((1 : Int))))))) none) none) (some (Sum.inl (P.wrap IntKind.i64 (P.add y_1 ((1 : Int)))))))) none) (some (Sum.inr (Sum.inl PUnit.unit)))) ((0 : Int))) (P.either (fun (z : PUnit) => P.cond (P.not (P.and (P.ieq (P.get x y ([], (0 : Int), (0 : Int))).snd.fst ((0 : Int))) (P.ieq (P.get x y ([], (0 : Int), (0 : Int))).snd.snd ((0 : Int))))) (P.cond (P.not (P.ieq (P.get x y ([], (0 : Int), (0 : Int))).snd.fst ((4 : Int)))) (some (Sum.inr (Sum.inr false))) (P.cond (P.ilt (P.get x y ([], (0 : Int), (0 : Int))).snd.snd ((0 : Int))) (some (Sum.inr (Sum.inr false))) (P.cond (P.ile y (P.get x y ([], (0 : Int), (0 : Int))).snd.snd) (some (Sum.inr (Sum.inr false))) (some (Sum.inl (P.wrap IntKind.i64 (P.add y ((1 : Int))))))))) (some (Sum.inl (P.wrap IntKind.i64 (P.add y ((1 : Int))))))) fun (r : Int ⊕ PUnit ⊕ Bool) => some r)) none) (some (Sum.inr (Sum.inl PUnit.unit)))) ((0 : Int))) (P.either (fun (z : PUnit) => some true) fun (r : Bool) => some r)
theorem ref19_May_eq (k : Nat) (x : (Ty.D (.slice T_api_Obj))) : evFn (EN k [(28, ⟨(.pair (.slice T_api_Obj) T_api_Val), .bool, ref19_Right k⟩)]) 6 Tryd.f26 [(2, ⟨[.var 3 (.d (.int .i64))], [], (some (0, []))⟩), (6, ⟨[.var 5 (.d (.int .i64))], [], (some (2, []))⟩)] (.slice T_api_Obj) .bool x = ref19_May k x := by kernel_rfl
theorem ref19_May_spec (k : Nat) : SpecOk Tryd.prog GG 26 ⟨(.slice T_api_Obj), .bool, ref19_May k⟩ :=
  fn_spec (envOk (E := EN k [(28, ⟨(.pair (.slice T_api_Obj) T_api_Val), .bool, ref19_Right k⟩)]) tabOk (.cons (ref19_Right_spec k) f28_at f28_ok <| .nil) codesOk mixedOk ggKeep) f26_at (fun x => (ref19_May_eq k x).symm)
noncomputable def ref19_own : (k : Nat) → (Ty.D (.pair T_api_Obj .str)) → Option (Ty.D (.pair T_api_Val .bool)) := fun (k : Nat) (x : (T_api_Obj.pair Ty.str).D) => P.bind (P.iter k (fun (y : Int) => P.cond (P.ilt y (P.len x.fst.fst)) (P.cond (P.inb y (P.len x.fst.fst)) (P.cond (P.seq (P.get x.fst.fst y ((ByteArray.mk #[]), (0 : Int), (0 : Int))).fst x.snd) (P.cond (P.inb y (P.len x.fst.fst)) (some (Sum.inr (Sum.inr ((P.get x.fst.fst y ((ByteArray.mk #[]), (0 : Int), (0 : Int))).snd, true)))) none) (some (Sum.inl (P.wrap IntKind.i64 (P.add y ((1 : Int))))))) none) (some (Sum.inr (Sum.inl PUnit.unit)))) ((0 : Int))) (P.either (fun (z : PUnit) => some (((0 : Int), (0 : Int)), false)) fun (r : (Int × Int) × Bool) => some r)
theorem ref19_own_eq (k : Nat) (x : (Ty.D (.pair T_api_Obj .str))) : evFn (EN k []) 6 Tryd.f40 [(2, ⟨[.var 6 (.d (.int .i64))], [4], (some (0, []))⟩)] (.pair T_api_Obj .str) (.pair T_api_Val .bool) x = ref19_own k x := by kernel_rfl
theorem ref19_own_spec (k : Nat) : SpecOk Tryd.prog GG 40 ⟨(.pair T_api_Obj .str), (.pair T_api_Val .bool), ref19_own k⟩ :=
  fn_spec (envOk (E := EN k []) tabOk (.nil) codesOk mixedOk ggKeep) f40_at (fun x => (ref19_own_eq k x).symm)
noncomputable def ref19_Get : (k : Nat) → (Ty.D (.pair (.slice T_api_Obj) (.pair T_api_Val .str))) → Option (Ty.D (.pair T_api_Val .bool)) := fun (k : Nat) (x : (T_api_Obj.slice.pair (T_api_Val.pair Ty.str)).D) => P.bind (ref19_May k x.fst) fun (r : Bool) => P.cond (P.not r) (some (((0 : Int), (0 : Int)), false)) (P.bind (P.iter k (fun (y : Int × Int) => P.cond (P.ieq y.fst ((4 : Int))) (P.bind (ref19_Right k (x.fst, y)) fun (r : Bool) => P.cond r (P.cond (P.inb y.snd (P.len x.fst)) (P.bind (ref19_own k (P.get x.fst y.snd ([], (0 : Int), (0 : Int)), x.snd.snd)) fun (r : (Int × Int) × Bool) => P.cond r.snd (some (Sum.inr (Sum.inr (r.fst, true)))) (P.cond (P.inb y.snd (P.len x.fst)) (some (Sum.inl (P.get x.fst y.snd ([], (0 : Int), (0 : Int))).snd)) none)) none) (some (Sum.inr (Sum.inl PUnit.unit)))) (some (Sum.inr (Sum.inl PUnit.unit)))) x.snd.fst) (P.either (fun (z : PUnit) => some (((0 : Int), (0 : Int)), false)) fun (r : (Int × Int) × Bool) => some r))
theorem ref19_Get_eq (k : Nat) (x : (Ty.D (.pair (.slice T_api_Obj) (.pair T_api_Val .str)))) : evFn (EN k [(26, ⟨(.slice T_api_Obj), .bool, ref19_May k⟩), (28, ⟨(.pair (.slice T_api_Obj) T_api_Val), .bool, ref19_Right k⟩), (40, ⟨(.pair T_api_Obj .str), (.pair T_api_Val .bool), ref19_own k⟩)]) 6 Tryd.f19 [(3, ⟨[.box 4 [] (.d (.st (.pair (.int .i64) (.int .i64))))], [6], (some (0, []))⟩)] (.pair (.slice T_api_Obj) (.pair T_api_Val .str)) (.pair T_api_Val .bool) x = ref19_Get k x := by kernel_rfl
theorem ref19_Get_spec (k : Nat) : SpecOk Tryd.prog GG 19 ⟨(.pair (.slice T_api_Obj) (.pair T_api_Val .str)), (.pair T_api_Val .bool), ref19_Get k⟩ :=
  fn_spec (envOk (E := EN k [(26, ⟨(.slice T_api_Obj), .bool, ref19_May k⟩), (28, ⟨(.pair (.slice T_api_Obj) T_api_Val), .bool, ref19_Right k⟩), (40, ⟨(.pair T_api_Obj .str), (.pair T_api_Val .bool), ref19_own k⟩)]) tabOk (.cons (ref19_May_spec k) f26_at f26_ok <| .cons (ref19_Right_spec k) f28_at f28_ok <| .cons (ref19_own_spec k) f40_at f40_ok <| .nil) codesOk mixedOk ggKeep) f19_at (fun x => (ref19_Get_eq k x).symm)
noncomputable def ref19_With : (k : Nat) → (Ty.D (.pair (.slice T_api_Prop) (.pair .str T_api_Val))) → Option (Ty.D (.slice T_api_Prop)) := fun (k : Nat) (x : (T_api_Prop.slice.pair (Ty.str.pair T_api_Val)).D) => P.bind (P.iter k (fun (y : List (ByteArray × Int × Int) × Bool × Int) => P.cond (P.ilt y.snd.snd (P.len x.fst)) (P.cond (P.not y.snd.fst) (P.cond (P.inb y.snd.snd (P.len x.fst)) (P.cond (P.sle x.snd.fst (P.get x.fst y.snd.snd ((ByteArray.mk #[]), (0 : Int), (0 : Int))).fst) (P.cond (P.room (P.add (P.len y.fst) (P.len [(x.snd.fst, x.snd.snd)])) 32) (P.cond (P.inb y.snd.snd (P.len x.fst)) (P.cond (P.not (P.seq (P.get x.fst y.snd.snd ((ByteArray.mk #[]), (0 : Int), (0 : Int))).fst x.snd.fst)) (P.cond (P.inb y.snd.snd (P.len x.fst)) (P.cond (P.room (P.add (P.len (P.app y.fst [(x.snd.fst, x.snd.snd)])) (P.len [P.get x.fst y.snd.snd ((ByteArray.mk #[]), (0 : Int), (0 : Int))])) 32) (some (Sum.inl (P.app (P.app y.fst [(x.snd.fst, x.snd.snd)]) [P.get x.fst y.snd.snd ((ByteArray.mk #[]), (0 : Int), (0 : Int))], true, P.wrap IntKind.i64 (P.add y.snd.snd ((1 : Int)))))) none) none) (some (Sum.inl (P.app y.fst [(x.snd.fst, x.snd.snd)], true, P.wrap IntKind.i64 (P.add y.snd.snd ((1 : Int))))))) none) none) (P.cond (P.inb y.snd.snd (P.len x.fst)) (P.cond (P.not (P.seq (P.get x.fst y.snd.snd ((ByteArray.mk #[]), (0 : Int), (0 : Int))).fst x.snd.fst)) (P.cond (P.inb y.snd.snd (P.len x.fst)) (P.cond (P.room (P.add (P.len y.fst) (P.len [P.get x.fst y.snd.snd ((ByteArray.mk #[]), (0 : Int), (0 : Int))])) 32) (some (Sum.inl (P.app y.fst [P.get x.fst y.snd.snd ((ByteArray.mk #[]), (0 : Int), (0 : Int))], y.snd.fst, P.wrap IntKind.i64 (P.add y.snd.snd ((1 : Int)))))) none) none) (some (Sum.inl (y.fst, y.snd.fst, P.wrap IntKind.i64 (P.add y.snd.snd ((1 : Int))))))) none)) none) (P.cond (P.inb y.snd.snd (P.len x.fst)) (P.cond (P.not (P.seq (P.get x.fst y.snd.snd ((ByteArray.mk #[]), (0 : Int), (0 : Int))).fst x.snd.fst)) (P.cond (P.inb y.snd.snd (P.len x.fst)) (P.cond (P.room (P.add (P.len y.fst) (P.len [P.get x.fst y.snd.snd ((ByteArray.mk #[]), (0 : Int), (0 : Int))])) 32) (some (Sum.inl (P.app y.fst [P.get x.fst y.snd.snd ((ByteArray.mk #[]), (0 : Int), (0 : Int))], y.snd.fst, P.wrap IntKind.i64 (P.add y.snd.snd ((1 : Int)))))) none) none) (some (Sum.inl (y.fst, y.snd.fst, P.wrap IntKind.i64 (P.add y.snd.snd ((1 : Int))))))) none)) (some (Sum.inr (Sum.inl (y.fst, y.snd.fst))))) ([], false, (0 : Int))) (P.either (fun (z : List (ByteArray × Int × Int) × Bool) => P.cond (P.not z.snd) (P.cond (P.room (P.add (P.len z.fst) (P.len [(x.snd.fst, x.snd.snd)])) 32) (some (P.app z.fst [(x.snd.fst, x.snd.snd)])) none) (some z.fst)) fun (r : List (ByteArray × Int × Int)) => some r)
theorem ref19_With_eq (k : Nat) (x : (Ty.D (.pair (.slice T_api_Prop) (.pair .str T_api_Val)))) : evFn (EN k []) 6 Tryd.f43 [(4, ⟨[.var 7 (.o (.st (.pair .str (.st (.pair (.int .i64) (.int .i64)))))), .var 8 (.d .bool), .var 9 (.d (.int .i64))], [], (some (0, [.var 7 (.o (.st (.pair .str (.st (.pair (.int .i64) (.int .i64)))))), .var 8 (.d .bool)]))⟩)] (.pair (.slice T_api_Prop) (.pair .str T_api_Val)) (.slice T_api_Prop) x = ref19_With k x := by kernel_rfl
theorem ref19_With_spec (k : Nat) : SpecOk Tryd.prog GG 43 ⟨(.pair (.slice T_api_Prop) (.pair .str T_api_Val)), (.slice T_api_Prop), ref19_With k⟩ :=
  fn_spec (envOk (E := EN k []) tabOk (.nil) codesOk mixedOk ggKeep) f43_at (fun x => (ref19_With_eq k x).symm)
noncomputable def ref19_Set : (k : Nat) → (Ty.D (.pair (.slice T_api_Obj) (.pair T_api_Val (.pair .str T_api_Val)))) → Option (Ty.D (.pair (.slice T_api_Obj) .bool)) := fun (k : Nat) (x : (T_api_Obj.slice.pair (T_api_Val.pair (Ty.str.pair T_api_Val))).D) => P.bind (ref19_May k x.fst) fun (r : Bool) => P.cond (P.not r) (some ([], false)) (P.cond (P.not (P.ieq x.snd.fst.fst ((4 : Int)))) (some ([], false)) (P.bind (ref19_Right k (x.fst, x.snd.fst)) fun (r : Bool) => P.cond (P.not r) (some ([], false)) (P.bind (ref19_Right k (x.fst, x.snd.snd.snd)) fun (r : Bool) => P.cond (P.not r) (some ([], false)) (P.cond (P.room (P.add (P.len (P.nil (List (ByteArray × Int × Int) × Int × Int))) (P.len x.fst)) 40) (P.cond (P.inb x.snd.fst.snd (P.len x.fst)) (P.bind (ref19_With k ((P.get x.fst x.snd.fst.snd ([], (0 : Int), (0 : Int))).fst, x.snd.snd.fst, x.snd.snd.snd)) fun (r : List (ByteArray × Int × Int)) => P.cond (P.inb x.snd.fst.snd (P.len (P.app [] x.fst))) (some (P.set (P.app [] x.fst) x.snd.fst.snd (r, (P.get (P.app [] x.fst) x.snd.fst.snd ([], (0 : Int), (0 : Int))).snd), true)) none) none) none))))
theorem ref19_Set_eq (k : Nat) (x : (Ty.D (.pair (.slice T_api_Obj) (.pair T_api_Val (.pair .str T_api_Val))))) : evFn (EN k [(26, ⟨(.slice T_api_Obj), .bool, ref19_May k⟩), (28, ⟨(.pair (.slice T_api_Obj) T_api_Val), .bool, ref19_Right k⟩), (43, ⟨(.pair (.slice T_api_Prop) (.pair .str T_api_Val)), (.slice T_api_Prop), ref19_With k⟩)]) 6 Tryd.f21 [] (.pair (.slice T_api_Obj) (.pair T_api_Val (.pair .str T_api_Val))) (.pair (.slice T_api_Obj) .bool) x = ref19_Set k x := by kernel_rfl
theorem ref19_Set_spec (k : Nat) : SpecOk Tryd.prog GG 21 ⟨(.pair (.slice T_api_Obj) (.pair T_api_Val (.pair .str T_api_Val))), (.pair (.slice T_api_Obj) .bool), ref19_Set k⟩ :=
  fn_spec (envOk (E := EN k [(26, ⟨(.slice T_api_Obj), .bool, ref19_May k⟩), (28, ⟨(.pair (.slice T_api_Obj) T_api_Val), .bool, ref19_Right k⟩), (43, ⟨(.pair (.slice T_api_Prop) (.pair .str T_api_Val)), (.slice T_api_Prop), ref19_With k⟩)]) tabOk (.cons (ref19_May_spec k) f26_at f26_ok <| .cons (ref19_Right_spec k) f28_at f28_ok <| .cons (ref19_With_spec k) f43_at f43_ok <| .nil) codesOk mixedOk ggKeep) f21_at (fun x => (ref19_Set_eq k x).symm)
noncomputable def ref19_New : (k : Nat) → (Ty.D (.pair (.slice T_api_Obj) T_api_Obj)) → Option (Ty.D (.pair (.slice T_api_Obj) (.pair T_api_Val .bool))) := fun (k : Nat) (x : (T_api_Obj.slice.pair T_api_Obj).D) => P.cond (P.room (P.add (P.len (P.nil (List (ByteArray × Int × Int) × Int × Int))) (P.len x.fst)) 40) (P.cond (P.room (P.add (P.len (P.app [] x.fst)) (P.len [x.snd])) 40) (P.bind (ref19_May k (P.app (P.app [] x.fst) [x.snd])) fun (r : Bool) => P.cond (P.not r) (some ([], ((0 : Int), (0 : Int)), false)) (some (P.app (P.app [] x.fst) [x.snd], ((4 : Int), P.len x.fst), true))) none) none
theorem ref19_New_eq (k : Nat) (x : (Ty.D (.pair (.slice T_api_Obj) T_api_Obj))) : evFn (EN k [(26, ⟨(.slice T_api_Obj), .bool, ref19_May k⟩)]) 6 Tryd.f23 [] (.pair (.slice T_api_Obj) T_api_Obj) (.pair (.slice T_api_Obj) (.pair T_api_Val .bool)) x = ref19_New k x := by kernel_rfl
theorem ref19_New_spec (k : Nat) : SpecOk Tryd.prog GG 23 ⟨(.pair (.slice T_api_Obj) T_api_Obj), (.pair (.slice T_api_Obj) (.pair T_api_Val .bool)), ref19_New k⟩ :=
  fn_spec (envOk (E := EN k [(26, ⟨(.slice T_api_Obj), .bool, ref19_May k⟩)]) tabOk (.cons (ref19_May_spec k) f26_at f26_ok <| .nil) codesOk mixedOk ggKeep) f23_at (fun x => (ref19_New_eq k x).symm)
noncomputable def ref19_Props : (k : Nat) → (Ty.D (.pair (.slice T_api_Prop) (.slice T_api_Prop))) → Option (Ty.D .bool) := fun (k : Nat) (x : (T_api_Prop.slice.pair T_api_Prop.slice).D) => P.cond (P.not (P.ieq (P.len x.fst) (P.len x.snd))) (some false) (P.bind (P.iter k (fun (y : Int) => P.cond (P.ilt y (P.len x.fst)) (P.cond (P.inb y (P.len x.fst)) (P.cond (P.inb y (P.len x.snd)) (P.cond (P.not (P.and (P.seq (P.get x.fst y ((ByteArray.mk #[]), (0 : Int), (0 : Int))).fst (P.get x.snd y ((ByteArray.mk #[]), (0 : Int), (0 : Int))).fst) (P.and (P.ieq (P.get x.fst y ((ByteArray.mk #[]), (0 : Int), (0 : Int))).snd.fst (P.get x.snd y ((ByteArray.mk #[]), (0 : Int), (0 : Int))).snd.fst) (P.ieq (P.get x.fst y ((ByteArray.mk #[]), (0 : Int), (0 : Int))).snd.snd (P.get x.snd y ((ByteArray.mk #[]), (0 : Int), (0 : Int))).snd.snd)))) (some (Sum.inr (Sum.inr false))) (some (Sum.inl (P.wrap IntKind.i64 (P.add y ((1 : Int))))))) none) none) (some (Sum.inr (Sum.inl PUnit.unit)))) ((0 : Int))) (P.either (fun (z : PUnit) => some true) fun (r : Bool) => some r))
theorem ref19_Props_eq (k : Nat) (x : (Ty.D (.pair (.slice T_api_Prop) (.slice T_api_Prop)))) : evFn (EN k []) 6 Tryd.f31 [(4, ⟨[.var 5 (.d (.int .i64))], [], (some (0, []))⟩)] (.pair (.slice T_api_Prop) (.slice T_api_Prop)) .bool x = ref19_Props k x := by kernel_rfl
theorem ref19_Props_spec (k : Nat) : SpecOk Tryd.prog GG 31 ⟨(.pair (.slice T_api_Prop) (.slice T_api_Prop)), .bool, ref19_Props k⟩ :=
  fn_spec (envOk (E := EN k []) tabOk (.nil) codesOk mixedOk ggKeep) f31_at (fun x => (ref19_Props_eq k x).symm)
noncomputable def ref19_Same : (k : Nat) → (Ty.D (.pair (.slice T_api_Obj) (.slice T_api_Obj))) → Option (Ty.D .bool) := fun (k : Nat) (x : (T_api_Obj.slice.pair T_api_Obj.slice).D) => P.cond (P.not (P.ieq (P.len x.fst) (P.len x.snd))) (some false) (P.bind (P.iter k (fun (y : Int) => P.cond (P.ilt y (P.len x.fst)) (P.cond (P.inb y (P.len x.fst)) (P.cond (P.inb y (P.len x.snd)) (P.cond (P.not (P.and (P.ieq (P.get x.fst y ([], (0 : Int), (0 : Int))).snd.fst (P.get x.snd y ([], (0 : Int), (0 : Int))).snd.fst) (P.ieq (P.get x.fst y ([], (0 : Int), (0 : Int))).snd.snd (P.get x.snd y ([], (0 : Int), (0 : Int))).snd.snd))) (some (Sum.inr (Sum.inr false))) (P.cond (P.inb y (P.len x.fst)) (P.cond (P.inb y (P.len x.snd)) (P.bind (ref19_Props k ((P.get x.fst y ([], (0 : Int), (0 : Int))).fst, (P.get x.snd y ([], (0 : Int), (0 : Int))).fst)) fun (r : Bool) => P.cond (P.not r) (some (Sum.inr (Sum.inr false))) (some (Sum.inl (P.wrap IntKind.i64 (P.add y ((1 : Int))))))) none) none)) none) none) (some (Sum.inr (Sum.inl PUnit.unit)))) ((0 : Int))) (P.either (fun (z : PUnit) => some true) fun (r : Bool) => some r))
theorem ref19_Same_eq (k : Nat) (x : (Ty.D (.pair (.slice T_api_Obj) (.slice T_api_Obj)))) : evFn (EN k [(31, ⟨(.pair (.slice T_api_Prop) (.slice T_api_Prop)), .bool, ref19_Props k⟩)]) 6 Tryd.f24 [(4, ⟨[.var 5 (.d (.int .i64))], [], (some (0, []))⟩)] (.pair (.slice T_api_Obj) (.slice T_api_Obj)) .bool x = ref19_Same k x := by kernel_rfl
theorem ref19_Same_spec (k : Nat) : SpecOk Tryd.prog GG 24 ⟨(.pair (.slice T_api_Obj) (.slice T_api_Obj)), .bool, ref19_Same k⟩ :=
  fn_spec (envOk (E := EN k [(31, ⟨(.pair (.slice T_api_Prop) (.slice T_api_Prop)), .bool, ref19_Props k⟩)]) tabOk (.cons (ref19_Props_spec k) f31_at f31_ok <| .nil) codesOk mixedOk ggKeep) f24_at (fun x => (ref19_Same_eq k x).symm)
noncomputable def ref03_Digits : (k : Nat) → (Ty.D (.int .u64)) → Option (Ty.D .str) := fun (k : Nat) (x : (Ty.int IntKind.u64).D) => P.bind (P.iter k (fun (y : Int × ByteArray) => P.cond (P.ilt ((9 : Int)) y.fst) (P.cond (P.not (P.ieq ((10 : Int)) ((0 : Int)))) (P.cond (P.not (P.ieq ((10 : Int)) ((0 : Int)))) (P.cond (P.cut (P.rem y.fst ((10 : Int))) (P.wrap IntKind.u64 (P.add (P.rem y.fst ((10 : Int))) ((1 : Int)))) (P.slen (ByteArray.mk #[48, 49, 50, 51, 52, 53, 54, 55, 56, 57]))) (P.cond (P.sfit (P.ssub (ByteArray.mk #[48, 49, 50, 51, 52, 53, 54, 55, 56, 57]) (P.rem y.fst ((10 : Int))) (P.wrap IntKind.u64 (P.add (P.rem y.fst ((10 : Int))) ((1 : Int))))) y.snd) (P.cond (P.not (P.ieq ((10 : Int)) ((0 : Int)))) (some (Sum.inl (P.wrap IntKind.u64 (P.quo y.fst ((10 : Int))), P.scat (P.ssub (ByteArray.mk #[48, 49, 50, 51, 52, 53, 54, 55, 56, 57]) (P.rem y.fst ((10 : Int))) (P.wrap IntKind.u64 (P.add (P.rem y.fst ((10 : Int))) ((1 : Int))))) y.snd))) none) none) none) none) none) (some (Sum.inr (Sum.inl (y.fst, y.snd))))) (x, (ByteArray.mk #[]))) (P.either (fun (z : Int × ByteArray) => P.cond (P.cut z.fst (P.wrap IntKind.u64 (P.add z.fst ((1 : Int)))) (P.slen (ByteArray.mk #[48, 49, 50, 51, 52, 53, 54, 55, 56, 57]))) (P.cond (P.sfit (P.ssub (ByteArray.mk #[48, 49, 50, 51, 52, 53, 54, 55, 56, 57]) z.fst (P.wrap IntKind.u64 (P.add z.fst ((1 : Int))))) z.snd) (some (P.scat (P.ssub (ByteArray.mk #[48, 49, 50, 51, 52, 53, 54, 55, 56, 57]) z.fst (P.wrap IntKind.u64 (P.add z.fst ((1 : Int))))) z.snd)) none) none) fun (r : ByteArray) => some r)
theorem ref03_Digits_eq (k : Nat) (x : (Ty.D (.int .u64))) : evFn (EN k []) 6 Tryd.f61 [(2, ⟨[.var 0 (.d (.int .u64)), .var 3 (.d .str)], [], (some (0, [.var 0 (.d (.int .u64)), .var 3 (.d .str)]))⟩)] (.int .u64) .str x = ref03_Digits k x := by kernel_rfl
theorem ref03_Digits_spec (k : Nat) : SpecOk Tryd.prog GG 61 ⟨(.int .u64), .str, ref03_Digits k⟩ :=
  fn_spec (envOk (E := EN k []) tabOk (.nil) codesOk mixedOk ggKeep) f61_at (fun x => (ref03_Digits_eq k x).symm)
noncomputable def ref03_Signed : (k : Nat) → (Ty.D (.int .i64)) → Option (Ty.D .str) := fun (k : Nat) (x : (Ty.int IntKind.i64).D) => P.cond (P.ilt x ((0 : Int))) (P.bind (ref03_Digits k (P.wrap IntKind.u64 (P.add (P.wrap IntKind.u64 (P.wrap IntKind.i64 (P.sub ((0 : Int)) (P.wrap IntKind.i64 (P.add x ((1 : Int))))))) ((1 : Int))))) fun (r : ByteArray) => P.cond (P.sfit (ByteArray.mk #[45]) r) (some (P.scat (ByteArray.mk #[45]) r)) none) (P.bind (ref03_Digits k (P.wrap IntKind.u64 x)) fun (r : ByteArray) => some r)
theorem ref03_Signed_eq (k : Nat) (x : (Ty.D (.int .i64))) : evFn (EN k [(61, ⟨(.int .u64), .str, ref03_Digits k⟩)]) 6 Tryd.f47 [] (.int .i64) .str x = ref03_Signed k x := by kernel_rfl
theorem ref03_Signed_spec (k : Nat) : SpecOk Tryd.prog GG 47 ⟨(.int .i64), .str, ref03_Signed k⟩ :=
  fn_spec (envOk (E := EN k [(61, ⟨(.int .u64), .str, ref03_Digits k⟩)]) tabOk (.cons (ref03_Digits_spec k) f61_at f61_ok <| .nil) codesOk mixedOk ggKeep) f47_at (fun x => (ref03_Signed_eq k x).symm)
noncomputable def ref19_Text : (k : Nat) → (Ty.D T_api_Val) → Option (Ty.D .str) := fun (k : Nat) (x : T_api_Val.D) => P.cond (P.ieq x.fst ((0 : Int))) (some (ByteArray.mk #[110, 117, 108, 108])) (P.cond (P.ieq x.fst ((1 : Int))) (P.cond (P.ieq x.snd ((0 : Int))) (some (ByteArray.mk #[102, 97, 108, 115, 101])) (some (ByteArray.mk #[116, 114, 117, 101]))) (P.cond (P.ieq x.fst ((2 : Int))) (P.bind (ref03_Signed k x.snd) fun (r : ByteArray) => some r) (P.cond (P.ieq x.fst ((3 : Int))) (some (ByteArray.mk #[102, 117, 110])) (P.cond (P.ieq x.fst ((4 : Int))) (some (ByteArray.mk #[111, 98, 106])) (some (ByteArray.mk #[63]))))))
theorem ref19_Text_eq (k : Nat) (x : (Ty.D T_api_Val)) : evFn (EN k [(47, ⟨(.int .i64), .str, ref03_Signed k⟩)]) 6 Tryd.f30 [] T_api_Val .str x = ref19_Text k x := by kernel_rfl
theorem ref19_Text_spec (k : Nat) : SpecOk Tryd.prog GG 30 ⟨T_api_Val, .str, ref19_Text k⟩ :=
  fn_spec (envOk (E := EN k [(47, ⟨(.int .i64), .str, ref03_Signed k⟩)]) tabOk (.cons (ref03_Signed_spec k) f47_at f47_ok <| .nil) codesOk mixedOk ggKeep) f30_at (fun x => (ref19_Text_eq k x).symm)
noncomputable def law19_StoreTells : (k : Nat) → (Ty.D (.pair (.slice T_api_Obj) (.pair T_proteanlaw19_Put T_api_Obj))) → Option (Ty.D .bool) := fun (k : Nat) (x : (T_api_Obj.slice.pair (T_proteanlaw19_Put.pair T_api_Obj)).D) => P.bind (ref19_Small k x.fst) fun (r : Bool) => P.cond (P.not r) (P.bind (law19_fixed k PUnit.unit) fun (r : Bool) => some r) (P.cond (P.ilt ((60 : Int)) (P.len x.snd.snd.fst)) (P.bind (law19_fixed k PUnit.unit) fun (r : Bool) => some r) (P.bind (store_Get k (x.fst, x.snd.fst.fst, x.snd.fst.snd.fst)) fun (r : (Int × Int) × Bool) => P.bind (ref19_Get k (x.fst, x.snd.fst.fst, x.snd.fst.snd.fst)) fun (r_1 : (Int × Int) × Bool) => P.bind (store_Set k (x.fst, x.snd.fst.fst, x.snd.fst.snd.fst, x.snd.fst.snd.snd)) fun (r_2 : List (List (ByteArray × Int × Int) × Int × Int) × Bool) => P.bind (ref19_Set k (x.fst, x.snd.fst.fst, x.snd.fst.snd.fst, x.snd.fst.snd.snd)) fun (r_3 : List (List (ByteArray × Int × Int) × Int × Int) × Bool) => P.bind (store_New k (x.fst, x.snd.snd)) fun (r_4 : List (List (ByteArray × Int × Int) × Int × Int) × (Int × Int) × Bool) => P.bind (ref19_New k (x.fst, x.snd.snd)) fun (r_5 : List (List (ByteArray × Int × Int) × Int × Int) × (Int × Int) × Bool) => P.bind (law19_fixed k PUnit.unit) fun (r_6 : Bool) => P.cond r_6 (P.cond (P.and (P.ieq r.fst.fst r_1.fst.fst) (P.ieq r.fst.snd r_1.fst.snd)) (P.cond (P.beq r.snd r_1.snd) (P.bind (ref19_Same k (r_2.fst, r_3.fst)) fun (r : Bool) => P.cond r (P.cond (P.beq r_2.snd r_3.snd) (P.bind (ref19_Same k (r_4.fst, r_5.fst)) fun (r : Bool) => P.cond r (P.cond (P.and (P.ieq r_4.snd.fst.fst r_5.snd.fst.fst) (P.ieq r_4.snd.fst.snd r_5.snd.fst.snd)) (P.cond (P.beq r_4.snd.snd r_5.snd.snd) (P.bind (store_May k x.fst) fun (r : Bool) => P.bind (ref19_May k x.fst) fun (r_7 : Bool) => P.cond (P.beq r r_7) (P.bind (store_Right k (x.fst, x.snd.fst.snd.snd)) fun (r : Bool) => P.bind (ref19_Right k (x.fst, x.snd.fst.snd.snd)) fun (r_8 : Bool) => P.cond (P.beq r r_8) (P.bind (store_Text k x.snd.fst.snd.snd) fun (r : ByteArray) => P.bind (ref19_Text k x.snd.fst.snd.snd) fun (r_9 : ByteArray) => some (P.seq r r_9)) (some false)) (some false)) (some false)) (some false)) (some false)) (some false)) (some false)) (some false)) (some false)) (some false)))
theorem law19_StoreTells_eq (k : Nat) (x : (Ty.D (.pair (.slice T_api_Obj) (.pair T_proteanlaw19_Put T_api_Obj)))) : evFn (EN k [(16, ⟨(.slice T_api_Obj), .bool, ref19_Small k⟩), (17, ⟨.unit, .bool, law19_fixed k⟩), (18, ⟨(.pair (.slice T_api_Obj) (.pair T_api_Val .str)), (.pair T_api_Val .bool), store_Get k⟩), (19, ⟨(.pair (.slice T_api_Obj) (.pair T_api_Val .str)), (.pair T_api_Val .bool), ref19_Get k⟩), (20, ⟨(.pair (.slice T_api_Obj) (.pair T_api_Val (.pair .str T_api_Val))), (.pair (.slice T_api_Obj) .bool), store_Set k⟩), (21, ⟨(.pair (.slice T_api_Obj) (.pair T_api_Val (.pair .str T_api_Val))), (.pair (.slice T_api_Obj) .bool), ref19_Set k⟩), (22, ⟨(.pair (.slice T_api_Obj) T_api_Obj), (.pair (.slice T_api_Obj) (.pair T_api_Val .bool)), store_New k⟩), (23, ⟨(.pair (.slice T_api_Obj) T_api_Obj), (.pair (.slice T_api_Obj) (.pair T_api_Val .bool)), ref19_New k⟩), (24, ⟨(.pair (.slice T_api_Obj) (.slice T_api_Obj)), .bool, ref19_Same k⟩), (25, ⟨(.slice T_api_Obj), .bool, store_May k⟩), (26, ⟨(.slice T_api_Obj), .bool, ref19_May k⟩), (27, ⟨(.pair (.slice T_api_Obj) T_api_Val), .bool, store_Right k⟩), (28, ⟨(.pair (.slice T_api_Obj) T_api_Val), .bool, ref19_Right k⟩), (29, ⟨T_api_Val, .str, store_Text k⟩), (30, ⟨T_api_Val, .str, ref19_Text k⟩)]) 6 Tryd.f5 [] (.pair (.slice T_api_Obj) (.pair T_proteanlaw19_Put T_api_Obj)) .bool x = law19_StoreTells k x := by kernel_rfl
theorem law19_StoreTells_spec (k : Nat) : SpecOk Tryd.prog GG 5 ⟨(.pair (.slice T_api_Obj) (.pair T_proteanlaw19_Put T_api_Obj)), .bool, law19_StoreTells k⟩ :=
  fn_spec (envOk (E := EN k [(16, ⟨(.slice T_api_Obj), .bool, ref19_Small k⟩), (17, ⟨.unit, .bool, law19_fixed k⟩), (18, ⟨(.pair (.slice T_api_Obj) (.pair T_api_Val .str)), (.pair T_api_Val .bool), store_Get k⟩), (19, ⟨(.pair (.slice T_api_Obj) (.pair T_api_Val .str)), (.pair T_api_Val .bool), ref19_Get k⟩), (20, ⟨(.pair (.slice T_api_Obj) (.pair T_api_Val (.pair .str T_api_Val))), (.pair (.slice T_api_Obj) .bool), store_Set k⟩), (21, ⟨(.pair (.slice T_api_Obj) (.pair T_api_Val (.pair .str T_api_Val))), (.pair (.slice T_api_Obj) .bool), ref19_Set k⟩), (22, ⟨(.pair (.slice T_api_Obj) T_api_Obj), (.pair (.slice T_api_Obj) (.pair T_api_Val .bool)), store_New k⟩), (23, ⟨(.pair (.slice T_api_Obj) T_api_Obj), (.pair (.slice T_api_Obj) (.pair T_api_Val .bool)), ref19_New k⟩), (24, ⟨(.pair (.slice T_api_Obj) (.slice T_api_Obj)), .bool, ref19_Same k⟩), (25, ⟨(.slice T_api_Obj), .bool, store_May k⟩), (26, ⟨(.slice T_api_Obj), .bool, ref19_May k⟩), (27, ⟨(.pair (.slice T_api_Obj) T_api_Val), .bool, store_Right k⟩), (28, ⟨(.pair (.slice T_api_Obj) T_api_Val), .bool, ref19_Right k⟩), (29, ⟨T_api_Val, .str, store_Text k⟩), (30, ⟨T_api_Val, .str, ref19_Text k⟩)]) tabOk (.cons (ref19_Small_spec k) f16_at f16_ok <| .cons (law19_fixed_spec k) f17_at f17_ok <| .cons (store_Get_spec k) f18_at f18_ok <| .cons (ref19_Get_spec k) f19_at f19_ok <| .cons (store_Set_spec k) f20_at f20_ok <| .cons (ref19_Set_spec k) f21_at f21_ok <| .cons (store_New_spec k) f22_at f22_ok <| .cons (ref19_New_spec k) f23_at f23_ok <| .cons (ref19_Same_spec k) f24_at f24_ok <| .cons (store_May_spec k) f25_at f25_ok <| .cons (ref19_May_spec k) f26_at f26_ok <| .cons (store_Right_spec k) f27_at f27_ok <| .cons (ref19_Right_spec k) f28_at f28_ok <| .cons (store_Text_spec k) f29_at f29_ok <| .cons (ref19_Text_spec k) f30_at f30_ok <| .nil) codesOk mixedOk ggKeep) f5_at (fun x => (law19_StoreTells_eq k x).symm)
end
section
namespace Go.PL
open Go.PG
theorem cond_eq {α : Type} (b : Bool) (x y : α) : P.cond b x y = if b = true then x else y := by cases b <;> rfl
theorem cond_true {α : Type} (x y : α) : P.cond true x y = x := rfl
theorem cond_false {α : Type} (x y : α) : P.cond false x y = y := rfl
theorem bind_some {α β : Type} (a : α) (f : α → Option β) : P.bind (some a) f = f a := rfl
theorem either_inl {α β γ : Type} (f : α → γ) (g : β → γ) (a : α) : P.either f g (.inl a) = f a := rfl
theorem either_inr {α β γ : Type} (f : α → γ) (g : β → γ) (b : β) : P.either f g (.inr b) = g b := rfl
section
variable {τ ρ : Type} {f : τ → Option (τ ⊕ ρ)}
theorem iter_succ (k : Nat) (x : τ) : P.iter (k + 1) f x = match f x with
    | none => none
    | some (.inl y) => P.iter k f y
    | some (.inr r) => some r := rfl
theorem iter_step {k : Nat} {x y : τ} (hk : 0 < k) (h : f x = some (.inl y)) : P.iter k f x = P.iter (k - 1) f y := by
  obtain ⟨k, rfl⟩ : ∃ m, k = m + 1 := ⟨k - 1, by omega⟩
  rw [iter_succ, h]; rfl
theorem iter_done {k : Nat} {x : τ} {r : ρ} (hk : 0 < k) (h : f x = some (.inr r)) : P.iter k f x = some r := by
  obtain ⟨k, rfl⟩ : ∃ m, k = m + 1 := ⟨k - 1, by omega⟩
  rw [iter_succ, h]
theorem iter_run (s : Nat → τ) (r : ρ) : ∀ (n i k : Nat), n < k → (∀ j, j < n → f (s (i + j)) = some (.inl (s (i + j + 1)))) → f (s (i + n)) = some (.inr r) → P.iter k f (s i) = some r := by
  intro n
  induction n with
  | zero => intro i k hk _ he; exact iter_done (by omega) (by simpa using he)
  | succ n ih =>
    intro i k hk hs he
    rw [iter_step (x := s i) (y := s (i + 1)) (by omega) (by simpa using hs 0 (by omega))]
    refine ih (i + 1) (k - 1) (by omega) (fun j hj => ?_) (by rw [show i + 1 + n = i + (n + 1) by omega]; exact he)
    have := hs (j + 1) (by omega)
    rw [show i + 1 + j = i + (j + 1) by omega]
    exact this
theorem iter_find {f : Int → Option (Int ⊕ ρ)} {n : Nat} {e : ρ} (g : Nat → Option ρ) (hs : ∀ i : Nat, i < n → f (i : Int) = some (match g i with
    | none => .inl ((i + 1 : Nat) : Int)
    | some r => .inr r)) (he : f (n : Int) = some (.inr e)) : ∀ (d i k : Nat), i + d = n → d < k → P.iter k f (i : Int) = some (((List.range' i d).findSome? g).getD e) := by
  intro d
  induction d with
  | zero =>
    intro i k hi hk
    obtain rfl : i = n := by omega
    exact iter_done (by omega) he
  | succ d ih =>
    intro i k hi hk
    have h := hs i (by omega)
    rw [List.range'_succ, List.findSome?_cons]
    cases q : g i with
    | none =>
      rw [q] at h
      simp only at h ⊢
      rw [iter_step (by omega) h]
      exact ih (i + 1) (k - 1) (by omega) (by omega)
    | some r =>
      rw [q] at h
      simp only at h
      rw [iter_done (by omega) h]
      rfl
theorem iter_find0 {f : Int → Option (Int ⊕ ρ)} {n : Nat} {e : ρ} (g : Nat → Option ρ) (k : Nat) (hs : ∀ i : Nat, i < n → f (i : Int) = some (match g i with
    | none => .inl ((i + 1 : Nat) : Int)
    | some r => .inr r)) (he : f (n : Int) = some (.inr e)) (hk : n < k) : P.iter k f 0 = some (((List.range n).findSome? g).getD e) := by
  have := iter_find g hs he n 0 k (by omega) hk
  rw [List.range_eq_range']
  exact this
theorem iter_all {f : Int → Option (Int ⊕ ρ)} {n : Nat} {e r : ρ} (p : Nat → Prop) [DecidablePred p] (k : Nat) (hs : ∀ i : Nat, i < n → f (i : Int) = some (if p i then .inl ((i + 1 : Nat) : Int) else .inr r)) (he : f (n : Int) = some (.inr e)) (hk : n < k) :
    P.iter k f 0 = some (if ∀ i, i < n → p i then e else r) := by
  rw [iter_find0 (n := n) (e := e) (fun i => if p i then none else some r) k (fun i hi => by rw [hs i hi]; by_cases h : p i <;> simp [h]) he hk]
  by_cases h : ∀ i, i < n → p i
  · rw [if_pos h]
    have : (List.range n).findSome? (fun i => if p i then none else some r) = none := by
      rw [List.findSome?_eq_none_iff]
      intro i hi
      simp [h i (List.mem_range.1 hi)]
    rw [this]; rfl
  · rw [if_neg h]
    have hh : ∃ i, i < n ∧ ¬ p i := by
      apply Classical.byContradiction
      intro q
      exact h fun i hi => Classical.byContradiction fun z => q ⟨i, hi, z⟩
    obtain ⟨i, hi, hp⟩ := hh
    have : ∃ y, (List.range n).findSome? (fun i => if p i then none else some r) = some y := by
      rw [← Option.isSome_iff_exists, List.findSome?_isSome_iff]
      exact ⟨i, List.mem_range.2 hi, by simp [hp]⟩
    obtain ⟨y, hy⟩ := this
    rw [hy]
    obtain ⟨j, _, hj⟩ := List.exists_of_findSome?_eq_some hy
    by_cases q : p j
    · simp [q] at hj
    · simp [q] at hj; simp [hj]
end
theorem ieq_iff {x y : Int} : P.ieq x y = true ↔ x = y := by simp [P.ieq]
theorem ilt_iff {x y : Int} : P.ilt x y = true ↔ x < y := by simp [P.ilt]
theorem ile_iff {x y : Int} : P.ile x y = true ↔ x ≤ y := by simp [P.ile]
theorem inb_iff {i n : Int} : P.inb i n = true ↔ 0 ≤ i ∧ i < n := by simp [P.inb]
theorem wrap_i64 {x : Int} (h0 : -9223372036854775808 ≤ x) (h1 : x < 9223372036854775808) : P.wrap .i64 x = x := by
  show IntKind.i64.wrap x = x
  simp only [IntKind.wrap, IntKind.bits, IntKind.signed]
  simp
  omega
theorem wrap_nat {n : Nat} (h : n < 9223372036854775808) : P.wrap .i64 (n : Int) = n := wrap_i64 (by omega) (by omega)
theorem wrap_succ {n : Nat} (h : n + 1 < 9223372036854775808) : P.wrap .i64 (P.add (n : Int) 1) = ((n + 1 : Nat) : Int) := by
  rw [wrap_i64 (by simp [P.add]; omega) (by simp [P.add]; omega)]; simp [P.add]
theorem wrap_u64 {x : Int} (h0 : 0 ≤ x) (h1 : x < 18446744073709551616) : P.wrap .u64 x = x := by
  show IntKind.u64.wrap x = x
  simp only [IntKind.wrap, IntKind.bits, IntKind.signed]
  simp
  omega
theorem wrap_pred {n : Nat} (h0 : 0 < n) (h : n < 9223372036854775808) : P.wrap .i64 (P.sub (n : Int) 1) = ((n - 1 : Nat) : Int) := by
  rw [wrap_i64 (by simp [P.sub]; omega) (by simp [P.sub]; omega)]; simp [P.sub]; omega
theorem not_iff {b : Bool} : P.not b = true ↔ ¬ b = true := by cases b <;> simp [P.not]
theorem and_iff {a b : Bool} : P.and a b = true ↔ a = true ∧ b = true := by simp [P.and]
theorem cut_iff {l u n : Int} : P.cut l u n = true ↔ 0 ≤ l ∧ l ≤ u ∧ u ≤ n := by simp [P.cut, and_assoc]
theorem room_iff {n : Int} {b : Nat} : P.room n b = true ↔ n.toNat * b ≤ 140737488355328 := by simp [P.room]
theorem room_nat {a b n : Nat} : P.room (P.add (a : Int) (b : Int)) n = true ↔ (a + b) * n ≤ 140737488355328 := by
  rw [room_iff]
  have : (P.add (a : Int) (b : Int)).toNat = a + b := by simp [P.add]; omega
  rw [this]
theorem get_nat {α : Type} (l : List α) (i : Nat) (d : α) : P.get l (i : Int) d = l.getD i d := by simp [P.get]
theorem len_eq {α : Type} (l : List α) : P.len l = (l.length : Int) := rfl
def ltS (a b : ByteArray) : Prop := a.data.toList < b.data.toList
instance (a b : ByteArray) : Decidable (ltS a b) := inferInstanceAs (Decidable (a.data.toList < b.data.toList))
theorem ba_ext {a b : ByteArray} (h : a.data.toList = b.data.toList) : a = b := by
  cases a; cases b; simp at h; simp [h]
theorem bytesLess_eq : ∀ (x y : List UInt8), Op.bytesLess x y = decide (x < y)
  | [], [] => by simp [Op.bytesLess]
  | _ :: _, [] => by simp [Op.bytesLess]
  | [], _ :: _ => by simp [Op.bytesLess]
  | a :: x, b :: y => by
    rw [Op.bytesLess, bytesLess_eq x y]
    simp only [List.cons_lt_cons_iff]
    by_cases h1 : a < b <;> by_cases h2 : a = b <;> by_cases h3 : x < y <;> simp [h1, h2, h3]
theorem slt_iff {a b : ByteArray} : P.slt a b = true ↔ ltS a b := by
  unfold P.slt ltS
  rw [bytesLess_eq, ByteArray.toList_eq, ByteArray.toList_eq]
  simp
theorem seq_iff {a b : ByteArray} : P.seq a b = true ↔ a = b := by
  unfold P.seq
  simp only [beq_iff_eq]
  exact ⟨ba_ext, fun h => by rw [h]⟩
theorem sle_iff {a b : ByteArray} : P.sle a b = true ↔ (ltS a b ∨ a = b) := by
  have h1 : Op.bytesLess a.toList b.toList = P.slt a b := rfl
  have h2 : (a.toList == b.toList) = P.seq a b := by unfold P.seq; rw [ByteArray.toList_eq, ByteArray.toList_eq]
  unfold P.sle
  rw [h1, h2, Bool.or_eq_true, slt_iff, seq_iff]
theorem ltS_irrefl (a : ByteArray) : ¬ ltS a a := List.lt_irrefl _
theorem ltS_trans {a b c : ByteArray} (h1 : ltS a b) (h2 : ltS b c) : ltS a c := List.lt_trans h1 h2
theorem ltS_asymm {a b : ByteArray} (h1 : ltS a b) : ¬ ltS b a := List.lt_asymm h1
theorem ltS_tri (a b : ByteArray) : ltS a b ∨ a = b ∨ ltS b a := by
  by_cases h1 : ltS a b
  · exact .inl h1
  · by_cases h2 : ltS b a
    · exact .inr (.inr h2)
    · exact .inr (.inl (ba_ext (List.le_antisymm (List.not_lt.1 h2) (List.not_lt.1 h1))))
theorem cmp_spec : ∀ (x y : List UInt8), (Lib.compareBytes x y < 0 ↔ x < y) ∧ (Lib.compareBytes x y = 0 ↔ x = y) ∧ -1 ≤ Lib.compareBytes x y ∧ Lib.compareBytes x y ≤ 1
  | [], [] => by simp [Lib.compareBytes]
  | [], _ :: _ => by simp [Lib.compareBytes]
  | _ :: _, [] => by simp [Lib.compareBytes]
  | a :: x, b :: y => by
    have ih := cmp_spec x y
    simp only [Lib.compareBytes, List.cons_lt_cons_iff, List.cons.injEq]
    by_cases h1 : a < b
    · have : a ≠ b := fun h => by subst h; exact absurd h1 (by simp)
      simp [h1, this]
    · by_cases h2 : b < a
      · have : a ≠ b := fun h => by subst h; exact absurd h2 (by simp)
        simp [h1, h2, this]
      · have : a = b := UInt8.le_antisymm (UInt8.not_lt.1 h2) (UInt8.not_lt.1 h1)
        subst this
        simp only [h1, if_false, true_and, false_or]
        exact ih
def cmpS (a b : ByteArray) : Int := Lib.compareBytes a.data.toList b.data.toList
theorem cmpS_lt {a b : ByteArray} : cmpS a b < 0 ↔ ltS a b := (cmp_spec _ _).1
theorem cmpS_eq {a b : ByteArray} : cmpS a b = 0 ↔ a = b := (cmp_spec _ _).2.1.trans ⟨ba_ext, fun h => by rw [h]⟩
end Go.PL
end
section
open Go Go.PG Go.PL
set_option linter.unusedVariables false
namespace Go.PL
abbrev Val := Int × Int
abbrev Prp := ByteArray × Val
abbrev Ob := List Prp × Val
def Right (n : Nat) (v : Val) : Prop := (v.1 = 0 ∧ v.2 = 0) ∨ (v.1 = 1 ∧ (v.2 = 0 ∨ v.2 = 1)) ∨ v.1 = 2 ∨ (v.1 = 3 ∧ 0 ≤ v.2) ∨ (v.1 = 4 ∧ 0 ≤ v.2 ∧ v.2 < n)
instance (n : Nat) (v : Val) : Decidable (Right n v) := by unfold Right; exact inferInstance
theorem ref_right (k : Nat) (s : List Ob) (v : Val) : ref19_Right k (s, v) = some (decide (Right s.length v)) := by
  obtain ⟨a, b⟩ := v
  unfold ref19_Right
  dsimp only
  simp only [cond_eq, ieq_iff, ile_iff, ilt_iff, len_eq]
  repeat' split
  all_goals
    rw [Option.some.injEq, Bool.eq_iff_iff, decide_eq_true_eq]
    simp only [Right, ieq_iff, ile_iff, ilt_iff, true_iff, Bool.false_eq_true, false_iff]
    omega
theorem st_right (k : Nat) (s : List Ob) (v : Val) : store_Right k (s, v) = some (decide (Right s.length v)) := by
  obtain ⟨a, b⟩ := v
  unfold store_Right
  dsimp only
  simp only [cond_eq, ieq_iff, ile_iff, ilt_iff, len_eq]
  repeat' split
  all_goals
    rw [Option.some.injEq, Bool.eq_iff_iff, decide_eq_true_eq]
    simp only [Right, ieq_iff, ile_iff, ilt_iff, true_iff, Bool.false_eq_true, false_iff]
    omega
abbrev dP : Prp := (⟨#[]⟩, 0, 0)
abbrev dO : Ob := ([], 0, 0)
def PropOk (n : Nat) (l : List Prp) (i : Nat) : Prop := Right n (l.getD i dP).2 ∧ (0 < i → ltS (l.getD (i - 1) dP).1 (l.getD i dP).1)
instance (n : Nat) (l : List Prp) (i : Nat) : Decidable (PropOk n l i) := by unfold PropOk; exact inferInstance
def ProtoOk (i : Nat) (v : Val) : Prop := (v.1 = 0 ∧ v.2 = 0) ∨ (v.1 = 4 ∧ 0 ≤ v.2 ∧ v.2 < i)
instance (i : Nat) (v : Val) : Decidable (ProtoOk i v) := by unfold ProtoOk; exact inferInstance
def ObOk (n i : Nat) (o : Ob) : Prop := (∀ k, k < o.1.length → PropOk n o.1 k) ∧ ProtoOk i o.2
instance (n i : Nat) (o : Ob) : Decidable (ObOk n i o) := by unfold ObOk; exact inferInstance
def MayS (s : List Ob) : Prop := ∀ i, i < s.length → ObOk s.length i (s.getD i dO)
instance (s : List Ob) : Decidable (MayS s) := by unfold MayS; exact inferInstance
def Fits (s : List Ob) : Prop := s.length < 9223372036854775808 ∧ ∀ i, i < s.length → (s.getD i dO).1.length < 9223372036854775808
def K : Nat := 18446744073709551616
theorem ref_may (s : List Ob) (hf : Fits s) : ref19_May K s = some (decide (MayS s)) := by
  unfold ref19_May
  rw [iter_all (n := s.length) (e := .inl ()) (r := .inr false) (fun i => ObOk s.length i (s.getD i dO)) K ?_ ?_ (by have := hf.1; unfold K; omega)]
  · rw [bind_some]
    have : (∀ i, i < s.length → ObOk s.length i (s.getD i dO)) ↔ MayS s := Iff.rfl
    by_cases h : MayS s
    · rw [if_pos (this.2 h)]; simp [h, either_inl]
    · rw [if_neg (fun q => h (this.1 q))]; simp [h, either_inr]
  · intro i hi
    have hl := hf.2 i hi
    simp only [cond_eq, ilt_iff, inb_iff, len_eq, get_nat]
    rw [if_pos (by omega), if_pos (by omega)]
    generalize ho : s.getD i dO = o at *
    rw [iter_all (n := o.1.length) (e := .inl ()) (r := .inr (.inr (.inr false))) (fun j => PropOk s.length o.1 j) K ?_ ?_ (by unfold K; omega)]
    · rw [bind_some]
      have e1 : (∀ j, j < o.1.length → PropOk s.length o.1 j) ∧ ProtoOk i o.2 ↔ ObOk s.length i o := Iff.rfl
      by_cases h : ∀ j, j < o.1.length → PropOk s.length o.1 j
      · rw [if_pos h, either_inl]
        simp only [not_iff, and_iff, ieq_iff, ile_iff]
        rw [wrap_succ (by have := hf.1; omega)]
        have e2 : ObOk s.length i o ↔ ProtoOk i o.2 := ⟨fun q => q.2, fun q => ⟨h, q⟩⟩
        simp only [e2, ProtoOk]
        repeat' split
        all_goals first
          | rfl
          | (exfalso; omega)
      · rw [if_neg h, either_inr]
        have : ¬ ObOk s.length i o := fun q => h q.1
        simp [this]
    · intro j hj
      rw [if_pos (by omega), if_pos ⟨by omega, by omega⟩, ref_right, bind_some]
      simp only [not_iff, decide_eq_true_eq, get_nat]
      rw [wrap_succ (by omega)]
      by_cases h : Right s.length (o.1.getD j dP).2
      · rw [if_neg (not_not_intro h)]
        by_cases h0 : 0 < j
        · rw [if_pos (by omega), wrap_pred h0 (by omega), if_pos ⟨by omega, by omega⟩, if_pos ⟨by omega, by omega⟩]
          simp only [get_nat, slt_iff]
          by_cases h2 : ltS (o.1.getD (j - 1) dP).1 (o.1.getD j dP).1
          · rw [if_neg (not_not_intro h2), if_pos (show PropOk s.length o.1 j from ⟨h, fun _ => h2⟩)]
          · rw [if_pos h2, if_neg (show ¬ PropOk s.length o.1 j from fun q => h2 (q.2 h0))]
        · rw [if_neg (by omega), if_pos (show PropOk s.length o.1 j from ⟨h, fun q => absurd q h0⟩)]
      · rw [if_pos h, if_neg (show ¬ PropOk s.length o.1 j from fun q => h q.1)]
    · rw [if_neg (by omega)]
  · simp only [cond_eq, ilt_iff, len_eq]
    rw [if_neg (by omega)]
theorem st_may (s : List Ob) (hf : Fits s) : store_May K s = some (decide (MayS s)) := by
  unfold store_May
  rw [iter_all (n := s.length) (e := .inl ()) (r := .inr false) (fun i => ObOk s.length i (s.getD i dO)) K ?_ ?_ (by have := hf.1; unfold K; omega)]
  · rw [bind_some]
    have : (∀ i, i < s.length → ObOk s.length i (s.getD i dO)) ↔ MayS s := Iff.rfl
    by_cases h : MayS s
    · rw [if_pos (this.2 h)]; simp [h, either_inl]
    · rw [if_neg (fun q => h (this.1 q))]; simp [h, either_inr]
  · intro i hi
    have hl := hf.2 i hi
    simp only [cond_eq, ilt_iff, inb_iff, len_eq, get_nat]
    rw [if_pos (by omega), if_pos (by omega)]
    generalize ho : s.getD i dO = o at *
    rw [iter_all (n := o.1.length) (e := .inl ()) (r := .inr (.inr (.inr false))) (fun j => PropOk s.length o.1 j) K ?_ ?_ (by unfold K; omega)]
    · rw [bind_some]
      have e1 : (∀ j, j < o.1.length → PropOk s.length o.1 j) ∧ ProtoOk i o.2 ↔ ObOk s.length i o := Iff.rfl
      by_cases h : ∀ j, j < o.1.length → PropOk s.length o.1 j
      · rw [if_pos h, either_inl]
        simp only [not_iff, and_iff, ieq_iff, ile_iff]
        rw [wrap_succ (by have := hf.1; omega)]
        have e2 : ObOk s.length i o ↔ ProtoOk i o.2 := ⟨fun q => q.2, fun q => ⟨h, q⟩⟩
        simp only [e2, ProtoOk]
        repeat' split
        all_goals first
          | rfl
          | (exfalso; omega)
      · rw [if_neg h, either_inr]
        have : ¬ ObOk s.length i o := fun q => h q.1
        simp [this]
    · intro j hj
      rw [if_pos (by omega), if_pos ⟨by omega, by omega⟩, st_right, bind_some]
      simp only [not_iff, decide_eq_true_eq, get_nat]
      rw [wrap_succ (by omega)]
      by_cases h : Right s.length (o.1.getD j dP).2
      · rw [if_neg (not_not_intro h)]
        by_cases h0 : 0 < j
        · rw [if_pos (by omega), wrap_pred h0 (by omega), if_pos ⟨by omega, by omega⟩]
          simp only [get_nat, slt_iff]
          by_cases h2 : ltS (o.1.getD (j - 1) dP).1 (o.1.getD j dP).1
          · rw [if_neg (not_not_intro h2), if_pos (show PropOk s.length o.1 j from ⟨h, fun _ => h2⟩)]
          · rw [if_pos h2, if_neg (show ¬ PropOk s.length o.1 j from fun q => h2 (q.2 h0))]
        · rw [if_neg (by omega), if_pos (show PropOk s.length o.1 j from ⟨h, fun q => absurd q h0⟩)]
      · rw [if_pos h, if_neg (show ¬ PropOk s.length o.1 j from fun q => h q.1)]
    · rw [if_neg (by omega)]
  · simp only [cond_eq, ilt_iff, len_eq]
    rw [if_neg (by omega)]
def ownM (l : List Prp) (name : ByteArray) : Option Val := (List.range l.length).findSome? fun i => if (l.getD i dP).1 = name then some (l.getD i dP).2 else none
def tell (o : Option Val) : Val × Bool := match o with
  | some w => (w, true)
  | none => ((0, 0), false)
theorem ref_own (o : Ob) (name : ByteArray) (hl : o.1.length < 9223372036854775808) : ref19_own K (o, name) = some (tell (ownM o.1 name)) := by
  unfold ref19_own
  dsimp only
  rw [iter_find0 (n := o.1.length) (e := .inl ()) (fun i => if (o.1.getD i dP).1 = name then some (Sum.inr ((o.1.getD i dP).2, true)) else none) K ?_ ?_ (by unfold K; omega)]
  · rw [bind_some]
    have : (List.range o.1.length).findSome? (fun i => if (o.1.getD i dP).1 = name then some (Sum.inr (α := PUnit) ((o.1.getD i dP).2, true)) else none) = (ownM o.1 name).map fun w => Sum.inr (w, true) := by
      unfold ownM
      rw [List.map_findSome?]
      congr 1
      funext i
      simp only [Function.comp]
      split <;> rfl
    rw [this]
    cases ownM o.1 name <;> rfl
  · intro i hi
    simp only [cond_eq, ilt_iff, inb_iff, len_eq, get_nat, seq_iff]
    rw [if_pos (by omega), if_pos ⟨by omega, by omega⟩, wrap_succ (by omega)]
    by_cases h : (o.1.getD i dP).1 = name
    · rw [if_pos h, if_pos ⟨by omega, by omega⟩, if_pos h]
    · rw [if_neg h, if_neg h]
  · simp only [cond_eq, ilt_iff, len_eq]
    rw [if_neg (by omega)]
theorem ref_small (s : List Ob) (hf : Fits s) : ref19_Small K s = some (decide ((∀ i, i < s.length → (s.getD i dO).1.length ≤ 60) ∧ s.length ≤ 100)) := by
  unfold ref19_Small
  rw [iter_all (n := s.length) (e := .inl ()) (r := .inr false) (fun i => (s.getD i dO).1.length ≤ 60) K ?_ ?_ (by have := hf.1; unfold K; omega)]
  · rw [bind_some]
    by_cases h : ∀ i, i < s.length → (s.getD i dO).1.length ≤ 60
    · rw [if_pos h, either_inl, Option.some.injEq, Bool.eq_iff_iff, decide_eq_true_eq, ile_iff, len_eq]
      exact ⟨fun q => ⟨h, by omega⟩, fun q => by have := q.2; omega⟩
    · rw [if_neg h, either_inr, Option.some.injEq, Bool.eq_iff_iff, decide_eq_true_eq]
      exact ⟨fun q => (by cases q), fun q => absurd q.1 h⟩
  · intro i hi
    have := hf.2 i hi
    have h1 := hf.1
    dsimp only [dO] at *
    simp only [cond_eq, ilt_iff, inb_iff, len_eq, get_nat]
    rw [if_pos (by omega), if_pos ⟨by omega, by omega⟩, wrap_succ (by omega)]
    by_cases h : (s.getD i ([], 0, 0)).1.length ≤ 60
    · rw [if_neg (by omega), if_pos h]
    · rw [if_pos (by omega), if_neg h]
  · simp only [cond_eq, ilt_iff, len_eq]
    rw [if_neg (by omega)]
def Srt (l : List Prp) : Prop := ∀ i, 0 < i → i < l.length → ltS (l.getD (i - 1) dP).1 (l.getD i dP).1
theorem Srt.lt {l : List Prp} (h : Srt l) : ∀ (j i : Nat), i < j → j < l.length → ltS (l.getD i dP).1 (l.getD j dP).1 := by
  intro j
  induction j with
  | zero => intro i hi; omega
  | succ j ih =>
    intro i hi hj
    have h1 := h (j + 1) (by omega) hj
    rw [Nat.add_sub_cancel] at h1
    rcases Nat.lt_or_ge i j with q | q
    · exact ltS_trans (ih i q (by omega)) h1
    · have : i = j := by omega
      subst this; exact h1
theorem find_loop (l : List Prp) (name : ByteArray) (hl : l.length < 9223372036854775808) (hs : Srt l) (f : Int × Int → Option ((Int × Int) ⊕ (Int ⊕ (Int × Bool))))
    (h1 : ∀ i j : Nat, i < j → j ≤ l.length → f ((i : Int), (j : Int)) = some (.inl (if ltS (l.getD ((i + j) / 2) dP).1 name then ((((i + j) / 2 + 1 : Nat) : Int), (j : Int)) else ((i : Int), (((i + j) / 2 : Nat) : Int)))))
    (h2 : ∀ i : Nat, f ((i : Int), (i : Int)) = some (.inr (.inl (i : Int)))) : ∀ (d i j k : Nat), j - i = d → i ≤ j → j ≤ l.length → d < k → (∀ t, t < i → ltS (l.getD t dP).1 name) → (∀ t, j ≤ t → t < l.length → ¬ ltS (l.getD t dP).1 name) →
    ∃ z : Nat, P.iter k f ((i : Int), (j : Int)) = some (.inl (z : Int)) ∧ z ≤ l.length ∧ (∀ t, t < z → ltS (l.getD t dP).1 name) ∧ (∀ t, z ≤ t → t < l.length → ¬ ltS (l.getD t dP).1 name) := by
  intro d
  induction d using Nat.strongRecOn with
  | ind d ih =>
    intro i j k hd hij hj hk lo hi
    by_cases h : i = j
    · subst h
      exact ⟨i, iter_done (by omega) (h2 i), hj, lo, hi⟩
    · have hf := h1 i j (by omega) hj
      have hm1 : i ≤ (i + j) / 2 := by omega
      have hm2 : (i + j) / 2 < j := by omega
      generalize (i + j) / 2 = m at *
      by_cases q : ltS (l.getD m dP).1 name
      · rw [if_pos q] at hf
        rw [iter_step (by omega) hf]
        refine ih (j - (m + 1)) (by omega) (m + 1) j (k - 1) rfl (by omega) hj (by omega) (fun t ht => ?_) hi
        rcases Nat.lt_or_ge t m with z | z
        · exact ltS_trans (hs.lt m t z (by omega)) q
        · have : t = m := by omega
          subst this; exact q
      · rw [if_neg q] at hf
        rw [iter_step (by omega) hf]
        refine ih (m - i) (by omega) i m (k - 1) rfl (by omega) (by omega) (by omega) lo (fun t ht htl => ?_)
        rcases Nat.lt_or_ge m t with z | z
        · exact fun w => q (ltS_trans (hs.lt t m z htl) w)
        · have : t = m := by omega
          subst this; exact q
theorem exists_z (l : List Prp) (name : ByteArray) (hs : Srt l) : ∃ z, z ≤ l.length ∧ (∀ t, t < z → ltS (l.getD t dP).1 name) ∧ (∀ t, z ≤ t → t < l.length → ¬ ltS (l.getD t dP).1 name) := by
  have : ∀ n, n ≤ l.length → ∃ z, z ≤ n ∧ (∀ t, t < z → ltS (l.getD t dP).1 name) ∧ (∀ t, z ≤ t → t < n → ¬ ltS (l.getD t dP).1 name) := by
    intro n
    induction n with
    | zero => intro _; exact ⟨0, Nat.le_refl _, fun t ht => by omega, fun t _ ht => by omega⟩
    | succ n ih =>
      intro hn
      obtain ⟨z, h1, h2, h3⟩ := ih (by omega)
      by_cases q : z = n
      · by_cases p : ltS (l.getD n dP).1 name
        · refine ⟨n + 1, Nat.le_refl _, fun t ht => ?_, fun t h4 h5 => by omega⟩
          rcases Nat.lt_or_ge t n with w | w
          · exact h2 t (by omega)
          · have : t = n := by omega
            subst this; exact p
        · refine ⟨n, by omega, fun t ht => h2 t (by omega), fun t h4 h5 => ?_⟩
          have : t = n := by omega
          subst this; exact p
      · refine ⟨z, by omega, h2, fun t h4 h5 => ?_⟩
        rcases Nat.lt_or_ge t n with w | w
        · exact h3 t h4 w
        · have : t = n := by omega
          subst this
          exact fun p => h3 z (Nat.le_refl _) (by omega) (ltS_trans (hs.lt t z (by omega) (by omega)) p)
  exact this l.length (Nat.le_refl _)
open Classical in
noncomputable def zOf (l : List Prp) (name : ByteArray) : Nat := if hs : Srt l then Classical.choose (exists_z l name hs) else 0
theorem zOf_spec {l : List Prp} {name : ByteArray} (hs : Srt l) : zOf l name ≤ l.length ∧ (∀ t, t < zOf l name → ltS (l.getD t dP).1 name) ∧ (∀ t, zOf l name ≤ t → t < l.length → ¬ ltS (l.getD t dP).1 name) := by
  unfold zOf
  rw [dif_pos hs]
  exact Classical.choose_spec (exists_z l name hs)
theorem find_loop0 (l : List Prp) (name : ByteArray) (hl : l.length < 9223372036854775808) (hs : Srt l) {f : Int × Int → Option ((Int × Int) ⊕ (Int ⊕ (Int × Bool)))}
    (h1 : ∀ i j : Nat, i < j → j ≤ l.length → f ((i : Int), (j : Int)) = some (.inl (if ltS (l.getD ((i + j) / 2) dP).1 name then ((((i + j) / 2 + 1 : Nat) : Int), (j : Int)) else ((i : Int), (((i + j) / 2 : Nat) : Int)))))
    (h2 : ∀ i : Nat, f ((i : Int), (i : Int)) = some (.inr (.inl (i : Int)))) : P.iter K f (0, P.len l) = some (.inl (zOf l name : Int)) := by
  obtain ⟨z, e, p1, p2, p3⟩ := find_loop l name hl hs f h1 h2 l.length 0 l.length K (by omega) (by omega) (Nat.le_refl _) (by unfold K; omega) (fun t ht => by omega) (fun t h1 h2 => by omega)
  obtain ⟨q1, q2, q3⟩ := zOf_spec (name := name) hs
  have : z = zOf l name := by
    rcases Nat.lt_trichotomy z (zOf l name) with h | h | h
    · exact absurd (q2 z h) (p3 z (Nat.le_refl _) (by omega))
    · exact h
    · exact absurd (p2 _ h) (q3 _ (Nat.le_refl _) (by omega))
  rw [← this]
  exact e
theorem mid_eq {i j : Nat} (hij : i < j) (hj : j < 9223372036854775808) : P.wrap .i64 (P.shrk .u64 (P.wrap .u64 (P.wrap .i64 (P.add (i : Int) (j : Int)))) 1) = (((i + j) / 2 : Nat) : Int) := by
  have e0 : P.add (i : Int) (j : Int) = ((i + j : Nat) : Int) := by simp [P.add]
  have e1 : P.wrap .u64 (P.wrap .i64 (P.add (i : Int) (j : Int))) = ((i + j : Nat) : Int) := by
    rw [e0]
    show IntKind.u64.wrap (IntKind.i64.wrap _) = _
    simp only [IntKind.wrap, IntKind.bits, IntKind.signed]
    simp
    omega
  have e2 : P.shrk .u64 (P.wrap .u64 (P.wrap .i64 (P.add (i : Int) (j : Int)))) 1 = (((i + j) / 2 : Nat) : Int) := by
    rw [e1]
    simp [P.shrk, IntKind.bits]
    rw [Int.fdiv_eq_ediv_of_nonneg _ (by omega)]
  rw [e2]
  exact wrap_nat (by omega)
theorem compare_eq (a b : ByteArray) : strings_Compare K (a, b) = some (cmpS a b) := rfl
theorem st_find (o : Ob) (name : ByteArray) (hl : o.1.length < 9223372036854775808) (hs : Srt o.1) :
    store_find K (o, name) = some ((zOf o.1 name : Int), decide (zOf o.1 name < o.1.length ∧ (o.1.getD (zOf o.1 name) dP).1 = name)) := by
  obtain ⟨q1, q2, q3⟩ := zOf_spec (name := name) hs
  unfold store_find
  dsimp only
  rw [find_loop0 o.1 name hl hs ?_ ?_]
  · rw [bind_some, either_inl]
    simp only [cond_eq, ilt_iff, inb_iff, len_eq, get_nat, compare_eq, bind_some]
    by_cases h : zOf o.1 name < o.1.length
    · rw [if_pos (by omega), if_pos ⟨by omega, by omega⟩, Option.some.injEq, Prod.mk.injEq]
      refine ⟨rfl, ?_⟩
      rw [Bool.eq_iff_iff, ieq_iff, cmpS_eq, decide_eq_true_eq]
      simp [h]
    · rw [if_neg (by omega)]
      simp [h]
  · intro i j hij hj
    simp only [cond_eq, ilt_iff, inb_iff, ile_iff, len_eq]
    rw [mid_eq hij (by omega), if_pos (by omega), if_pos (by omega), if_pos ⟨by omega, by omega⟩]
    simp only [get_nat, compare_eq, bind_some, cmpS_lt]
    rw [wrap_succ (by omega)]
    split <;> rfl
  · intro i
    simp only [cond_eq, ilt_iff]
    rw [if_neg (by omega)]
def lookM (s : List Ob) (name : ByteArray) : Nat → Val → Option Val
  | 0, _ => none
  | m + 1, v => if v.1 = 4 ∧ Right s.length v then match ownM (s.getD v.2.toNat dO).1 name with
      | some w => some w
      | none => lookM s name m (s.getD v.2.toNat dO).2
    else none
def getM (s : List Ob) (v : Val) (name : ByteArray) : Option Val := if MayS s then lookM s name (s.length + 1) v else none
theorem MayS.srt {s : List Ob} (h : MayS s) {i : Nat} (hi : i < s.length) : Srt (s.getD i dO).1 := fun k h0 hk => ((h i hi).1 k hk).2 h0
theorem right4 {n : Nat} {v : Val} (h4 : v.1 = 4) (h : Right n v) : 0 ≤ v.2 ∧ v.2 < n := by
  unfold Right at h; omega
theorem look_loop (s : List Ob) (name : ByteArray) (hf : Fits s) (hm : MayS s) {f : Val → Option (Val ⊕ (PUnit ⊕ (Val × Bool)))} (h1 : ∀ v : Val, ¬ (v.1 = 4 ∧ Right s.length v) → f v = some (.inr (.inl ())))
    (h2 : ∀ v : Val, v.1 = 4 → Right s.length v → f v = some (match ownM (s.getD v.2.toNat dO).1 name with
      | some w => .inr (.inr (w, true))
      | none => .inl (s.getD v.2.toNat dO).2)) (v : Val) : P.iter K f v = some (match lookM s name (s.length + 1) v with
      | some w => .inr (w, true)
      | none => .inl ()) := by
  have key : ∀ (m k : Nat) (v : Val), (v.1 = 4 → Right s.length v → v.2 < m) → m < k → P.iter k f v = some (match lookM s name (m + 1) v with
      | some w => .inr (w, true)
      | none => .inl ()) := by
    intro m
    induction m with
    | zero =>
      intro k v hv hk
      have hno : ¬ (v.1 = 4 ∧ Right s.length v) := fun ⟨a, b⟩ => by have := hv a b; have := right4 a b; omega
      rw [iter_done (by omega) (h1 v hno), lookM, if_neg hno]
    | succ m ih =>
      intro k v hv hk
      by_cases h : v.1 = 4 ∧ Right s.length v
      · have hr := right4 h.1 h.2
        have hlt : v.2.toNat < s.length := by omega
        have hp := (hm v.2.toNat hlt).2
        have hstep := h2 v h.1 h.2
        rw [lookM, if_pos h]
        cases q : ownM (s.getD v.2.toNat dO).1 name with
        | some w =>
          rw [q] at hstep
          rw [iter_done (by omega) hstep]
        | none =>
          rw [q] at hstep
          rw [iter_step (by omega) hstep]
          refine ih (k - 1) _ (fun a b => ?_) (by omega)
          have := hv h.1 h.2
          unfold ProtoOk at hp
          omega
      · rw [iter_done (by omega) (h1 v h), lookM, if_neg h]
  exact key s.length K v (fun a b => (right4 a b).2) (by have := hf.1; unfold K; omega)
theorem ref_get (s : List Ob) (v : Val) (name : ByteArray) (hf : Fits s) : ref19_Get K (s, v, name) = some (tell (getM s v name)) := by
  unfold ref19_Get
  dsimp only
  rw [ref_may s hf, bind_some]
  unfold getM
  by_cases hm : MayS s
  · rw [if_pos hm]
    simp only [hm, decide_true]
    rw [look_loop s name hf hm ?_ ?_]
    · rw [cond_eq, if_neg (by simp [P.not]), bind_some]
      cases lookM s name (s.length + 1) v <;> rfl
    · intro v hv
      simp only [cond_eq, ieq_iff]
      by_cases h4 : v.1 = 4
      · rw [if_pos h4, ref_right, bind_some, if_neg (by simpa using fun q => hv ⟨h4, q⟩)]
      · rw [if_neg h4]
    · intro v h4 hr
      have hb := right4 h4 hr
      have hlt : v.2.toNat < s.length := by omega
      have e : (v.2.toNat : Int) = v.2 := by omega
      have hl := hf.2 _ hlt
      simp only [cond_eq, ieq_iff, inb_iff, len_eq]
      rw [if_pos h4, ref_right, bind_some, if_pos (by simpa using hr), if_pos ⟨by omega, by omega⟩, if_pos ⟨by omega, by omega⟩]
      have hg : P.get s v.2 (([], 0, 0) : Ob) = s.getD v.2.toNat dO := rfl
      rw [hg, ref_own _ _ hl, bind_some]
      cases ownM (s.getD v.2.toNat dO).1 name <;> rfl
  · rw [if_neg hm]
    simp only [hm, decide_false]
    rfl
theorem own_srt {l : List Prp} {name : ByteArray} (hs : Srt l) : ownM l name = if zOf l name < l.length ∧ (l.getD (zOf l name) dP).1 = name then some (l.getD (zOf l name) dP).2 else none := by
  obtain ⟨q1, q2, q3⟩ := zOf_spec (name := name) hs
  have uniq : ∀ t, t < l.length → (l.getD t dP).1 = name → t = zOf l name := by
    intro t ht he
    rcases Nat.lt_trichotomy t (zOf l name) with h | h | h
    · exact absurd (q2 t h) (by rw [he]; exact ltS_irrefl _)
    · exact h
    · exact absurd (hs.lt t _ h ht) (by rw [he]; exact q3 _ (Nat.le_refl _) (by omega))
  unfold ownM
  by_cases h : zOf l name < l.length ∧ (l.getD (zOf l name) dP).1 = name
  · rw [if_pos h]
    have : ∃ y, (List.range l.length).findSome? (fun i => if (l.getD i dP).1 = name then some (l.getD i dP).2 else none) = some y := by
      rw [← Option.isSome_iff_exists, List.findSome?_isSome_iff]
      exact ⟨zOf l name, List.mem_range.2 h.1, by rw [if_pos h.2]; rfl⟩
    obtain ⟨y, hy⟩ := this
    rw [hy]
    obtain ⟨j, hj1, hj⟩ := List.exists_of_findSome?_eq_some hy
    have hj1 := List.mem_range.1 hj1
    by_cases q : (l.getD j dP).1 = name
    · rw [if_pos q] at hj
      rw [← hj, uniq j hj1 q]
    · rw [if_neg q] at hj; cases hj
  · rw [if_neg h, List.findSome?_eq_none_iff]
    intro t ht
    have ht := List.mem_range.1 ht
    rw [if_neg]
    intro q
    have := uniq t ht q
    subst this
    exact h ⟨ht, q⟩
theorem st_look (s : List Ob) (v : Val) (name : ByteArray) (hf : Fits s) (hm : MayS s) : store_Look K (s, v, name) = some (tell (lookM s name (s.length + 1) v)) := by
  unfold store_Look
  dsimp only
  rw [look_loop s name hf hm ?_ ?_]
  · rw [bind_some]
    cases lookM s name (s.length + 1) v <;> rfl
  · intro v hv
    simp only [cond_eq, ieq_iff]
    by_cases h4 : v.1 = 4
    · rw [if_pos h4, st_right, bind_some, if_neg (by simpa using fun q => hv ⟨h4, q⟩)]
    · rw [if_neg h4]
  · intro v h4 hr
    have hb := right4 h4 hr
    have hlt : v.2.toNat < s.length := by omega
    have hl := hf.2 _ hlt
    simp only [cond_eq, ieq_iff, inb_iff, len_eq]
    rw [if_pos h4, st_right, bind_some, if_pos (by simpa using hr), if_pos ⟨by omega, by omega⟩]
    have hg : P.get s v.2 (([], 0, 0) : Ob) = s.getD v.2.toNat dO := rfl
    rw [hg, st_find _ _ hl (hm.srt hlt), bind_some, own_srt (hm.srt hlt)]
    simp only [decide_eq_true_eq, get_nat]
    generalize s.getD v.2.toNat dO = o at *
    by_cases h : zOf o.1 name < o.1.length ∧ (o.1.getD (zOf o.1 name) dP).1 = name
    · rw [if_pos h, if_pos ⟨by omega, by omega⟩, if_pos h]
    · rw [if_neg h, if_neg h]
theorem st_get (s : List Ob) (v : Val) (name : ByteArray) (hf : Fits s) : store_Get K (s, v, name) = some (tell (getM s v name)) := by
  unfold store_Get
  dsimp only
  rw [st_may s hf, bind_some]
  unfold getM
  by_cases hm : MayS s
  · rw [if_pos hm]
    simp only [hm, decide_true]
    rw [st_look s v name hf hm]
    rfl
  · rw [if_neg hm]
    simp only [hm, decide_false]
    rfl
end Go.PL
end
section
open Go Go.PG Go.PL
set_option linter.unusedVariables false
set_option linter.unusedSimpArgs false
namespace Go.PL
noncomputable def zBk (l : List Prp) (nm : ByteArray) : Nat := if zOf l nm < l.length ∧ (l.getD (zOf l nm) dP).1 = nm then zOf l nm + 1 else zOf l nm
noncomputable def withM (l : List Prp) (nm : ByteArray) (w : Val) : List Prp := l.take (zOf l nm) ++ (nm, w) :: l.drop (zBk l nm)
theorem take_snoc {α : Type} {l : List α} {i : Nat} (h : i < l.length) (d : α) : l.take (i + 1) = l.take i ++ [l.getD i d] := by
  rw [List.take_succ_eq_append_getElem h]; simp [List.getD_eq_getElem?_getD, h]
theorem zBk_bd (l : List Prp) (nm : ByteArray) : zOf l nm ≤ zBk l nm ∧ zBk l nm ≤ zOf l nm + 1 := by
  unfold zBk; split <;> omega
theorem ref_with (l : List Prp) (nm : ByteArray) (w : Val) (hs : Srt l) (hl : l.length ≤ 1000000000) : ref19_With K (l, nm, w) = some (withM l nm w) := by
  obtain ⟨q1, q2, q3⟩ := zOf_spec (name := nm) hs
  obtain ⟨b1, b2⟩ := zBk_bd l nm
  have hgt : ∀ t, zOf l nm < t → t < l.length → ltS nm (l.getD t dP).1 := by
    intro t h1 h2
    have h3 := q3 _ (Nat.le_refl _) (by omega : zOf l nm < l.length)
    have h4 := hs.lt t _ h1 h2
    rcases ltS_tri (l.getD (zOf l nm) dP).1 nm with h | h | h
    · exact absurd h h3
    · rw [← h]; exact h4
    · exact ltS_trans h h4
  unfold ref19_With
  dsimp only
  let S : Nat → List Prp × Bool × Int := fun i => (if i ≤ zOf l nm then l.take i else l.take (zOf l nm) ++ (nm, w) :: (l.take i).drop (zBk l nm), decide (zOf l nm < i), (i : Int))
  have h0 : (([], false, 0) : List Prp × Bool × Int) = S 0 := by simp [S]
  rw [h0]
  rw [iter_run S (Sum.inl (if l.length ≤ zOf l nm then l else withM l nm w, decide (zOf l nm < l.length))) l.length 0 K (by unfold K; omega) ?_ ?_]
  · rw [bind_some, either_inl]
    simp only [cond_eq, not_iff, decide_eq_true_eq, room_nat, len_eq]
    by_cases h : l.length ≤ zOf l nm
    · have hz : zOf l nm = l.length := by omega
      have hb : zBk l nm = l.length := by unfold zBk; rw [if_neg (by omega)]; exact hz
      rw [if_pos (by omega), if_pos h, if_pos (by simp; omega)]
      simp [withM, P.app, hz, hb]
    · rw [if_neg (by omega), if_neg h]
  · intro i hi
    simp only [Nat.zero_add]
    have hw : P.wrap .i64 (P.add (i : Int) 1) = ((i + 1 : Nat) : Int) := wrap_succ (by omega)
    have len1 : (l.take i).length ≤ 1000000000 := by rw [List.length_take]; omega
    rcases Nat.lt_trichotomy i (zOf l nm) with h | h | h
    · have h5 := q2 i h
      have h6 : ¬ (ltS nm (l.getD i dP).1 ∨ nm = (l.getD i dP).1) := by
        rintro (z | z)
        · exact ltS_asymm h5 z
        · rw [← z] at h5; exact ltS_irrefl _ h5
      have h7 : ¬ (l.getD i dP).1 = nm := fun z => h6 (.inr z.symm)
      have e1 : S i = (l.take i, false, (i : Int)) := by simp only [S]; rw [if_pos (by omega)]; simp; omega
      have e2 : S (i + 1) = (l.take i ++ [l.getD i dP], false, ((i + 1 : Nat) : Int)) := by simp only [S]; rw [if_pos (by omega), take_snoc hi dP]; simp; omega
      rw [e1, e2]
      simp only [cond_eq, ilt_iff, inb_iff, room_nat, len_eq, not_iff, hw, sle_iff, seq_iff, get_nat, P.app]
      rw [if_pos (by omega), if_pos (by simp), if_pos (by omega), if_neg h6, if_pos (by omega), if_pos h7, if_pos (by omega), if_pos (by simp; omega)]
    · subst h
      have h5 := q3 _ (Nat.le_refl _) hi
      have h6 : ltS nm (l.getD (zOf l nm) dP).1 ∨ nm = (l.getD (zOf l nm) dP).1 := by
        rcases ltS_tri (l.getD (zOf l nm) dP).1 nm with h | h | h
        · exact absurd h h5
        · exact .inr h.symm
        · exact .inl h
      have e1 : S (zOf l nm) = (l.take (zOf l nm), false, (zOf l nm : Int)) := by simp only [S]; rw [if_pos (by omega)]; simp
      rw [e1]
      simp only [cond_eq, ilt_iff, inb_iff, room_nat, len_eq, not_iff, hw, sle_iff, seq_iff, get_nat, P.app]
      rw [if_pos (by omega), if_pos (by simp), if_pos (by omega), if_pos h6, if_pos (by simp; omega), if_pos (by omega)]
      by_cases h7 : (l.getD (zOf l nm) dP).1 = nm
      · have hb : zBk l nm = zOf l nm + 1 := by unfold zBk; rw [if_pos ⟨hi, h7⟩]
        have e2 : S (zOf l nm + 1) = (l.take (zOf l nm) ++ [(nm, w)], true, ((zOf l nm + 1 : Nat) : Int)) := by simp only [S]; rw [if_neg (by omega), hb]; simp
        rw [if_neg (not_not_intro h7), e2]
      · have hb : zBk l nm = zOf l nm := by unfold zBk; rw [if_neg (fun q => h7 q.2)]
        have e2 : S (zOf l nm + 1) = ((l.take (zOf l nm) ++ [(nm, w)]) ++ [l.getD (zOf l nm) dP], true, ((zOf l nm + 1 : Nat) : Int)) := by simp only [S]; rw [if_neg (by omega), hb, take_snoc hi dP]; simp [List.drop_append, Nat.min_eq_left q1]
        rw [if_pos h7, if_pos (by omega), if_pos (by simp; omega), e2]
    · have h5 := hgt i h hi
      have h7 : ¬ (l.getD i dP).1 = nm := fun z => by rw [z] at h5; exact ltS_irrefl _ h5
      have e1 : S i = (l.take (zOf l nm) ++ (nm, w) :: (l.take i).drop (zBk l nm), true, (i : Int)) := by simp only [S]; rw [if_neg (by omega)]; simp; omega
      have e2 : S (i + 1) = ((l.take (zOf l nm) ++ (nm, w) :: (l.take i).drop (zBk l nm)) ++ [l.getD i dP], true, ((i + 1 : Nat) : Int)) := by
        simp only [S]; rw [if_neg (by omega), take_snoc hi dP, List.drop_append_of_le_length (by rw [List.length_take]; omega)]; simp; omega
      rw [e1, e2]
      simp only [cond_eq, ilt_iff, inb_iff, room_nat, len_eq, not_iff, hw, sle_iff, seq_iff, get_nat, P.app]
      rw [if_pos (by omega), if_neg (by simp), if_pos (by omega), if_pos h7, if_pos (by omega), if_pos (by simp; omega)]
  · simp only [Nat.zero_add, S, cond_eq, ilt_iff, len_eq]
    rw [if_neg (by omega)]
    have e : l.take l.length = l := List.take_length
    rw [e]
    rfl
theorem getD_mem {α : Type} {l : List α} {i : Nat} (h : i < l.length) (d : α) : l.getD i d ∈ l := by
  rw [List.getD_eq_getElem?_getD, List.getElem?_eq_getElem h]; exact List.getElem_mem h
theorem with_len (l : List Prp) (nm : ByteArray) (w : Val) : (withM l nm w).length ≤ l.length + 1 := by
  obtain ⟨b1, b2⟩ := zBk_bd l nm
  unfold withM
  simp
  omega
def newM (s : List Ob) (o : Ob) : List Ob × Val × Bool := if MayS (s ++ [o]) then (s ++ [o], (4, (s.length : Int)), true) else ([], (0, 0), false)
theorem fits_app {s : List Ob} {o : Ob} (hf : Fits s) (hs : s.length ≤ 1000000000) (ho : o.1.length < 9223372036854775808) : Fits (s ++ [o]) := by
  refine ⟨by simp; omega, fun i hi => ?_⟩
  rw [List.length_append, List.length_singleton] at hi
  rcases Nat.lt_or_ge i s.length with h | h
  · have := hf.2 i h
    rw [List.getD_eq_getElem?_getD, List.getElem?_append_left h, ← List.getD_eq_getElem?_getD]
    exact this
  · have : i = s.length := by omega
    subst this
    simpa [List.getD_eq_getElem?_getD] using ho
theorem ref_new (s : List Ob) (o : Ob) (hf : Fits s) (hs : s.length ≤ 1000000000) (ho : o.1.length < 9223372036854775808) : ref19_New K (s, o) = some (newM s o) := by
  unfold ref19_New newM
  have e : P.app (P.app ([] : List Ob) s) [o] = s ++ [o] := by simp [P.app]
  have e1 : P.app ([] : List Ob) s = s := by simp [P.app]
  have e2 : P.nil (List (ByteArray × Int × Int) × Int × Int) = [] := rfl
  dsimp only
  rw [e, e1, e2, ref_may _ (fits_app hf hs ho)]
  simp only [cond_eq, bind_some, len_eq, room_nat, not_iff, decide_eq_true_eq]
  rw [if_pos (by simp; omega), if_pos (by simp; omega)]
  by_cases h : MayS (s ++ [o])
  · rw [if_neg (not_not_intro h), if_pos h]
  · rw [if_pos h, if_neg h]
theorem getD_app {α : Type} {s : List α} {t : List α} {i : Nat} (h : i < s.length) (d : α) : (s ++ t).getD i d = s.getD i d := by
  rw [List.getD_eq_getElem?_getD, List.getElem?_append_left h, ← List.getD_eq_getElem?_getD]
noncomputable def setS (s : List Ob) (i : Nat) (nm : ByteArray) (w : Val) : List Ob := s.set i (withM (s.getD i dO).1 nm w, (s.getD i dO).2)
open Classical in
noncomputable def setM (s : List Ob) (v : Val) (nm : ByteArray) (w : Val) : List Ob × Bool := if MayS s ∧ v.1 = 4 ∧ Right s.length v ∧ Right s.length w then (setS s v.2.toNat nm w, true) else ([], false)
theorem ref_set (s : List Ob) (v : Val) (nm : ByteArray) (w : Val) (hf : Fits s) (hs : s.length ≤ 1000000000) (hp : ∀ i, i < s.length → (s.getD i dO).1.length ≤ 1000000000) : ref19_Set K (s, v, nm, w) = some (setM s v nm w) := by
  unfold ref19_Set setM
  have e1 : P.app ([] : List Ob) s = s := by simp [P.app]
  have e2 : P.nil (List (ByteArray × Int × Int) × Int × Int) = [] := rfl
  dsimp only
  rw [ref_may s hf, ref_right, ref_right, e1, e2]
  simp only [cond_eq, bind_some, len_eq, room_nat, not_iff, decide_eq_true_eq, ieq_iff, inb_iff]
  by_cases h1 : MayS s
  · rw [if_neg (not_not_intro h1)]
    by_cases h2 : v.1 = 4
    · rw [if_neg (not_not_intro h2)]
      by_cases h3 : Right s.length v
      · rw [if_neg (not_not_intro h3)]
        by_cases h4 : Right s.length w
        · have hr := right4 h2 h3
          have hlt : v.2.toNat < s.length := by omega
          have hg : P.get s v.2 (([], 0, 0) : Ob) = s.getD v.2.toNat dO := rfl
          rw [if_neg (not_not_intro h4), if_pos (by simp; omega), if_pos (by omega), hg, ref_with _ nm w (h1.srt hlt) (hp _ hlt), bind_some, if_pos (by omega), if_pos ⟨h1, h2, h3, h4⟩]
          rfl
        · rw [if_pos h4, if_neg (fun q => h4 q.2.2.2)]
      · rw [if_pos h3, if_neg (fun q => h3 q.2.2.1)]
    · rw [if_pos h2, if_neg (fun q => h2 q.2.1)]
  · rw [if_pos h1, if_neg (fun q => h1 q.1)]
theorem setS_len (s : List Ob) (i : Nat) (nm : ByteArray) (w : Val) : (setS s i nm w).length = s.length := by simp [setS]
theorem setS_at {s : List Ob} {i : Nat} (h : i < s.length) (nm : ByteArray) (w : Val) : (setS s i nm w).getD i dO = (withM (s.getD i dO).1 nm w, (s.getD i dO).2) := by
  simp [setS, List.getD_eq_getElem?_getD, h]
theorem setS_ne {s : List Ob} {i j : Nat} (h : i ≠ j) (nm : ByteArray) (w : Val) : (setS s i nm w).getD j dO = s.getD j dO := by
  simp [setS, List.getD_eq_getElem?_getD, List.getElem?_set_ne h]
end Go.PL
end
section
open Go Go.PG Go.PL
set_option linter.all false
namespace Go.PL
theorem ilt_nn (i n : Nat) : P.ilt (i : Int) (n : Int) = decide (i < n) := by rw [Bool.eq_iff_iff, ilt_iff, decide_eq_true_eq]; omega
theorem inb_nn (i n : Nat) : P.inb (i : Int) (n : Int) = decide (i < n) := by rw [Bool.eq_iff_iff, inb_iff, decide_eq_true_eq]; omega
theorem ieq_nn (i n : Nat) : P.ieq (i : Int) (n : Int) = decide (i = n) := by rw [Bool.eq_iff_iff, ieq_iff, decide_eq_true_eq]; omega
theorem cond_t {α : Type} (x y : α) : P.cond true x y = x := rfl
theorem cond_f {α : Type} (x y : α) : P.cond false x y = y := rfl
theorem room_le {a b n : Nat} (h : a + b ≤ 1000000000) (hn : n ≤ 64) : P.room (P.add (a : Int) (b : Int)) n = true := by
  rw [room_nat]
  have := Nat.mul_le_mul h hn
  omega
theorem amb_same {α : Type} (x : Option α) : P.amb x x = x := by simp [P.amb]
theorem clone_any {α : Type} (x : List α) (b : Nat) (h : x.length ≤ 1000000) (hb : b ≤ 64) :
    P.cond (P.ilt 0 (P.len x)) (P.cond (P.not true) (some []) (P.cond (P.room (P.add (P.len (P.nil α)) (P.len x)) b) (some (P.app [] x)) none)) (P.amb (some []) (P.cond (P.room (P.add (P.len (P.nil α)) (P.len x)) b) (some (P.app [] x)) none)) = some x := by
  have hr : P.room (P.add (P.len (P.nil α)) (P.len x)) b = true := by
    rw [len_eq, len_eq]
    exact room_le (by show 0 + x.length ≤ _; omega) hb
  rw [hr, cond_t, len_eq]
  have e : P.app [] x = x := rfl
  rw [e]
  by_cases h0 : 0 < x.length
  · rw [show P.ilt 0 (x.length : Int) = true by rw [ilt_iff]; omega]
    rfl
  · have : x = [] := List.eq_nil_of_length_eq_zero (by omega)
    subst this
    exact amb_same _
theorem cloneP (k : Nat) (x : List Prp) (h : x.length ≤ 1000000) : slices_Clone_api_Prop_api_Prop k x = some x := clone_any x 32 h (by omega)
theorem cloneO (k : Nat) (x : List Ob) (h : x.length ≤ 1000000) : slices_Clone_api_Obj_api_Obj k x = some x := clone_any x 40 h (by omega)
def FewO (s : List Ob) : Prop := s.length ≤ 1000000 ∧ ∀ i, i < s.length → (s.getD i dO).1.length ≤ 1000000
theorem few_fits {s : List Ob} (h : FewO s) : Fits s := ⟨by have := h.1; omega, fun i hi => by have := h.2 i hi; omega⟩
theorem loop_run {τ ρ σ : Type} (n : Nat) (s : Nat → τ) (s0 e : τ) {f : Int × τ → Option ((Int × τ) ⊕ (τ ⊕ ρ))} {A : τ → Option σ} {B : ρ → Option σ} (hn : n ≤ 1000000000) (h0 : s 0 = s0) (h1 : s n = e)
    (hs : ∀ i : Nat, i < n → f ((i : Int), s i) = some (.inl (((i + 1 : Nat) : Int), s (i + 1)))) (he : f ((n : Int), e) = some (.inr (.inl e))) :
    P.bind (P.iter K f (0, s0)) (P.either A B) = A e := by
  subst h0; subst h1
  have := iter_run (f := f) (fun i => ((i : Int), s i)) (.inl (s n)) n 0 K (by unfold K; omega) (fun j hj => by
    simp only [Nat.zero_add]
    exact hs j hj) (by simpa using he)
  rw [show ((0 : Nat) : Int) = 0 from rfl] at this
  rw [this, bind_some]
  rfl
theorem set_self {α : Type} {l : List α} {i : Nat} (h : i < l.length) (d : α) : l.set i (l.getD i d) = l := by
  rw [List.getD_eq_getElem?_getD, List.getElem?_eq_getElem h]
  exact List.set_getElem_self h
theorem st_copied (s : List Ob) (h : FewO s) : store_copied K s = some s := by
  unfold store_copied
  try dsimp only
  rw [cloneO K s h.1, bind_some]
  rw [loop_run s.length (fun _ => s) s s (by have := h.1; omega) rfl rfl ?_ ?_]
  · intro i hi
    try dsimp only
    have hi2 := h.2 i hi
    have hl := h.1
    have e : P.get s (i : Int) (([], 0, 0) : Ob) = s.getD i dO := get_nat _ _ _
    rw [len_eq, ilt_nn, decide_eq_true hi, cond_t, inb_nn, decide_eq_true hi, cond_t, e, cloneP K _ hi2, bind_some, cond_t, wrap_succ (by omega)]
    have e2 : P.set s (i : Int) ((s.getD i dO).1, (s.getD i dO).2) = s := by
      show s.set (i : Int).toNat _ = s
      rw [Int.toNat_natCast]
      exact set_self hi dO
    rw [e2]
  · try dsimp only
    rw [len_eq, ilt_nn, decide_eq_false (by omega)]
    rfl
theorem st_new (s : List Ob) (o : Ob) (h : FewO s) (ho : o.1.length ≤ 1000000) : store_New K (s, o) = some (newM s o) := by
  have hf := few_fits h
  have hl := h.1
  unfold store_New newM
  try dsimp only
  have e : P.app s [(o.1, o.2)] = s ++ [o] := rfl
  rw [st_copied s h, bind_some, cloneP K _ ho, bind_some, len_eq, len_eq, room_le (by show s.length + 1 ≤ _; omega) (by omega), cond_t, e, st_may _ (fits_app hf (by omega) (by omega)), bind_some]
  by_cases q : MayS (s ++ [o])
  · rw [if_pos q, decide_eq_true q]; rfl
  · rw [if_neg q, decide_eq_false q]; rfl
theorem twrap_get {s : List Ob} {i : Nat} (h : i < s.length) (z : List Prp × (Int × Int)) : P.tget (P.twrap (γ := List Prp) s : List (Ob × Option (List Prp))) (i : Int) z = s.getD i dO := by
  unfold P.tget P.twrap
  rw [Int.toNat_natCast, List.getElem?_map, List.getElem?_eq_getElem h, List.getD_eq_getElem?_getD, List.getElem?_eq_getElem h]
  rfl
theorem twrap_len (s : List Ob) : P.len (P.twrap (γ := List Prp) s) = (s.length : Int) := by
  rw [len_eq]; simp [P.twrap]
theorem st_set (s : List Ob) (v : Val) (nm : ByteArray) (w : Val) (h : FewO s) : store_Set K (s, v, nm, w) = some (setM s v nm w) := by
  have hf := few_fits h
  have hl := h.1
  unfold store_Set setM
  try dsimp only
  rw [st_may s hf, bind_some]
  by_cases hm : MayS s
  case neg => rw [if_neg (fun z => hm z.1), decide_eq_false hm]; rfl
  rw [decide_eq_true hm]
  by_cases h4 : v.1 = 4
  case neg =>
    rw [if_neg (fun z => h4 z.2.1), show P.ieq v.1 4 = false by rw [Bool.eq_false_iff, Ne, ieq_iff]; exact h4]; rfl
  rw [show P.ieq v.1 4 = true by rw [ieq_iff]; exact h4, st_right, bind_some]
  by_cases hv : Right s.length v
  case neg => rw [if_neg (fun z => hv z.2.2.1), decide_eq_false hv]; rfl
  rw [decide_eq_true hv, st_right, bind_some]
  by_cases hw : Right s.length w
  case neg => rw [if_neg (fun z => hw z.2.2.2), decide_eq_false hw]; rfl
  rw [decide_eq_true hw, if_pos ⟨hm, h4, hv, hw⟩]
  show (P.bind _ _) = _
  have hb := right4 h4 hv
  obtain ⟨N, hN⟩ : ∃ N : Nat, v.2 = (N : Int) := ⟨v.2.toNat, by omega⟩
  have hNl : N < s.length := by omega
  rw [hN, cloneO K s h.1, bind_some]
  have hsn := hm.srt hNl
  have ho := h.2 N hNl
  rw [loop_run s.length (fun i => (if N < i then (s.getD N dO).1 else [], (N : Int), decide (N < i), P.twrap (γ := List Prp) s)) ([], (N : Int), false, P.twrap (γ := List Prp) s) ((s.getD N dO).1, (N : Int), true, P.twrap (γ := List Prp) s) (by omega) (by simp) (by simp only [if_pos hNl, decide_eq_true hNl]) ?_ ?_]
  · try dsimp only
    have e1 : P.and true (P.ieq (N : Int) (N : Int)) = true := by rw [ieq_nn, decide_eq_true rfl]; rfl
    have e2 : P.ieq (N : Int) (N : Int) = true := by rw [ieq_nn, decide_eq_true rfl]
    rw [twrap_len, inb_nn, decide_eq_true hNl, cond_t, e1, cond_t, twrap_get hNl]
    have e3 : ((s.getD N dO).1, (s.getD N dO).2) = s.getD N dO := rfl
    rw [e3, st_find (s.getD N dO) nm (by omega) hsn, bind_some]
    obtain ⟨q1, q2, q3⟩ := zOf_spec (name := nm) hsn
    have hmap : (P.twrap (γ := List Prp) s).map (fun p => p.1) = s := by
      unfold P.twrap
      rw [List.map_map]
      exact List.map_id s
    have htres : ∀ ys : List Prp, P.tres true (N : Int) (P.twrap (γ := List Prp) s) ys (([], 0, 0) : Ob) = s.set N (ys, (s.getD N dO).2) := fun ys => by
      unfold P.tres
      rw [show P.ile 0 (N : Int) = true by rw [ile_iff]; omega]
      simp only [hmap, Int.toNat_natCast, twrap_get hNl]
    unfold setS
    have hNt : v.2.toNat = N := by omega
    simp only [Int.toNat_natCast]
    generalize s.getD N dO = o at *
    simp only [htres]
    by_cases q : zOf o.1 nm < o.1.length ∧ (o.1.getD (zOf o.1 nm) dP).1 = nm
    · rw [decide_eq_true q, cond_t, cond_t, len_eq, inb_nn, decide_eq_true q.1, cond_t]
      have hwm : P.set o.1 (zOf o.1 nm : Int) ((P.get o.1 (zOf o.1 nm : Int) dP).1, w) = withM o.1 nm w := by
        rw [get_nat, q.2]
        show o.1.set (zOf o.1 nm : Int).toNat (nm, w) = _
        rw [Int.toNat_natCast]
        unfold withM zBk
        rw [if_pos q, List.set_eq_take_append_cons_drop, if_pos q.1]
      rw [hwm]
    · rw [decide_eq_false q, cond_f, cond_t, e2]
      have r1 : P.ilt 0 (P.len [(nm, w)]) = true := rfl
      have r2 : P.cut 0 (zOf o.1 nm : Int) (P.len o.1) = true := by
        unfold P.cut
        rw [len_eq]
        simp
        omega
      have r3 : P.room (P.add (P.len o.1) (P.len [(nm, w)])) 32 = true := by
        rw [len_eq, len_eq]
        exact room_le (by show o.1.length + 1 ≤ _; omega) (by omega)
      rw [r1, r2, r3]
      have hwm : P.insAt o.1 (zOf o.1 nm : Int) [(nm, w)] = withM o.1 nm w := by
        unfold P.insAt withM zBk
        rw [if_neg q, Int.toNat_natCast, List.append_assoc]
        rfl
      rw [hwm]
      rfl
  · intro i hi
    try dsimp only
    have hi2 := h.2 i hi
    rw [twrap_len, ilt_nn, decide_eq_true hi, cond_t, inb_nn, decide_eq_true hi, cond_t, twrap_get hi, ieq_nn, wrap_succ (by omega)]
    by_cases q : i = N
    · subst q
      rw [decide_eq_false (Nat.lt_irrefl _)]
      show (P.bind _ _) = _
      rw [cloneP K _ hi2, bind_some, cond_t, decide_eq_true rfl, cond_t, if_pos (Nat.lt_succ_self i), decide_eq_true (Nat.lt_succ_self i)]
    · have e1 : P.not (P.and (decide (N < i)) (decide (i = N))) = true := by rw [decide_eq_false q]; cases decide (N < i) <;> rfl
      rw [e1, cond_t, cloneP K _ hi2, bind_some, cond_t, decide_eq_false q, cond_f]
      have e2 : P.tput (P.twrap (γ := List Prp) s) (i : Int) (s.getD i dO).1 (([], 0, 0) : Ob) = P.twrap (γ := List Prp) s := by
        unfold P.tput
        rw [twrap_get hi, Int.toNat_natCast]
        apply List.ext_getElem?
        intro j
        rw [List.getElem?_set]
        by_cases z : i = j
        · subst z
          rw [if_pos rfl, if_pos (by simp [P.twrap]; exact hi)]
          unfold P.twrap
          rw [List.getElem?_map, List.getElem?_eq_getElem hi, List.getD_eq_getElem?_getD, List.getElem?_eq_getElem hi]
          rfl
        · rw [if_neg z]
      rw [e2]
      have e3 : (N < i + 1) = (N < i) := by apply propext; omega
      simp only [e3]
  · try dsimp only
    rw [twrap_len, ilt_nn, decide_eq_false (by omega)]
    rfl
end Go.PL
end
section
open Go Go.PG Go.PL
set_option linter.all false
namespace Go.PL
def B (l : List UInt8) : ByteArray := ⟨l.toArray⟩
theorem B_size (l : List UInt8) : (B l).size = l.length := by simp [B, ByteArray.size]
theorem scat_B (l m : List UInt8) : P.scat (B l) (B m) = B (l ++ m) := ba_ext (by simp [P.scat, B])
theorem sfit_B (l m : List UInt8) (h : l.length + m.length ≤ 9223372036854775807) : P.sfit (B l) (B m) = true := by
  unfold P.sfit
  rw [B_size, B_size]
  rw [Nat.ble_eq]; exact h
theorem seq_eq (a b : ByteArray) : P.seq a b = decide (a = b) := by rw [Bool.eq_iff_iff, seq_iff, decide_eq_true_eq]
theorem dig_fin : ∀ i : Fin 10, P.ssub { data := #[48, 49, 50, 51, 52, 53, 54, 55, 56, 57] } ((i.val : Nat) : Int) ((i.val + 1 : Nat) : Int) = B [UInt8.ofNat (48 + i.val)] := by decide +kernel
theorem dig_at {n : Nat} (h : n < 10) : P.ssub { data := #[48, 49, 50, 51, 52, 53, 54, 55, 56, 57] } (n : Int) ((n + 1 : Nat) : Int) = B [UInt8.ofNat (48 + n)] := dig_fin ⟨n, h⟩
theorem dig_len : P.slen { data := #[48, 49, 50, 51, 52, 53, 54, 55, 56, 57] } = 10 := by decide
theorem rem_nat (a b : Nat) : P.rem (a : Int) (b : Int) = ((a % b : Nat) : Int) := by cases b <;> rfl
theorem quo_nat (a b : Nat) : P.quo (a : Int) (b : Int) = ((a / b : Nat) : Int) := by cases b <;> rfl
theorem nDigits_le : ∀ (u k : Nat), u < 10 ^ (k + 1) → Lib.nDigits u ≤ k + 1
  | u, 0, h => by rw [Lib.nDigits_small (by simpa using h)]; exact Nat.le_refl _
  | u, k + 1, h => by
    by_cases q : u < 10
    · rw [Lib.nDigits_small q]; omega
    · rw [Lib.nDigits_big q]
      have := nDigits_le (u / 10) k (by rw [Nat.pow_succ] at h; omega)
      omega
theorem ref_digits (u : Nat) (hu : u < 18446744073709551616) : ref03_Digits K (u : Int) = some (B (Lib.decDigits u)) := by
  unfold ref03_Digits
  generalize hf : (fun (y : Int × ByteArray) => _ : Int × ByteArray → Option ((Int × ByteArray) ⊕ ((Int × ByteArray) ⊕ ByteArray))) = f
  have key : ∀ (v k : Nat) (s : List UInt8), v < 18446744073709551616 → v < k → s.length + Lib.nDigits v ≤ 20 → ∃ (d : Nat) (t : List UInt8), d < 10 ∧ t.length ≤ 20 ∧ P.iter k f ((v : Int), B s) = some (.inl ((d : Int), B t)) ∧ UInt8.ofNat (48 + d) :: t = Lib.decDigits v ++ s := by
    intro v
    induction v using Nat.strongRecOn with
    | _ v ih =>
      intro k s hv hk hs
      by_cases q : v < 10
      · refine ⟨v, s, q, by omega, ?_, by rw [Lib.decDigits_one q]; rfl⟩
        refine iter_done (by omega) ?_
        rw [← hf]
        simp only [cond_eq, ilt_iff]
        rw [if_neg (by omega)]
      · rw [Lib.nDigits_big q] at hs
        obtain ⟨d, t, h1, h2, h3, h4⟩ := ih (v / 10) (by omega) (k - 1) (UInt8.ofNat (48 + v % 10) :: s) (by omega) (by omega) (by simp only [List.length_cons]; omega)
        refine ⟨d, t, h1, h2, ?_, ?_⟩
        · rw [iter_step (y := (((v / 10 : Nat) : Int), B (UInt8.ofNat (48 + v % 10) :: s))) (by omega)]
          · exact h3
          · rw [← hf]
            have e1 : P.rem (v : Int) 10 = ((v % 10 : Nat) : Int) := rem_nat v 10
            have e2 : P.quo (v : Int) 10 = ((v / 10 : Nat) : Int) := quo_nat v 10
            have e3 : P.wrap .u64 (P.add ((v % 10 : Nat) : Int) 1) = ((v % 10 + 1 : Nat) : Int) := by rw [wrap_u64 (by simp only [P.add]; omega) (by simp only [P.add]; omega)]; simp only [P.add]; omega
            have e4 : P.wrap .u64 ((v / 10 : Nat) : Int) = ((v / 10 : Nat) : Int) := wrap_u64 (by omega) (by omega)
            simp only [e1, e2, e3, e4, dig_at (show v % 10 < 10 by omega), dig_len]
            simp only [cond_eq, ilt_iff, cut_iff, show P.not (P.ieq (10 : Int) 0) = true from rfl, if_true, scat_B]
            rw [if_pos (by omega), if_pos ⟨by omega, by omega, by omega⟩, if_pos (sfit_B _ _ (by simp only [List.length_cons, List.length_nil]; omega))]
            rfl
        · rw [h4, Lib.decDigits.eq_1 v, dif_neg q]
          simp
  have h20 : Lib.nDigits u ≤ 20 := nDigits_le u 19 (by omega)
  obtain ⟨d, t, h1, h2, h3, h4⟩ := key u K [] hu (by unfold K; omega) (by simpa using h20)
  have h3 : P.iter K f ((u : Int), { data := #[] }) = some (.inl ((d : Int), B t)) := h3
  rw [h3, bind_some, either_inl]
  have e3 : P.wrap .u64 (P.add (d : Int) 1) = ((d + 1 : Nat) : Int) := by rw [wrap_u64 (by simp only [P.add]; omega) (by simp only [P.add]; omega)]; simp only [P.add]; omega
  simp only [e3, dig_at h1, dig_len, cond_eq, cut_iff, scat_B]
  rw [if_pos ⟨by omega, by omega, by omega⟩, if_pos (sfit_B _ _ (by simp only [List.length_cons, List.length_nil]; omega))]
  rw [List.append_nil] at h4
  rw [← h4]; rfl
def InI (n : Int) : Prop := -9223372036854775808 ≤ n ∧ n ≤ 9223372036854775807
theorem itoa_len {n : Int} (h : InI n) : (Lib.itoa n).length ≤ 21 := Lib.itoa_length_le n h.1 h.2
theorem at_itoa (k : Nat) (n : Int) (h : InI n) : strconv_Itoa k n = some (B (Lib.itoa n)) := by
  unfold strconv_Itoa
  exact if_pos h
theorem ref_signed (n : Int) (h : InI n) : ref03_Signed K n = some (B (Lib.itoa n)) := by
  unfold ref03_Signed
  unfold InI at h
  have hl := itoa_len h
  by_cases q : n < 0
  · obtain ⟨u, rfl⟩ : ∃ u : Nat, n = -(u : Int) := ⟨n.natAbs, by omega⟩
    have e : P.wrap .u64 (P.add (P.wrap .u64 (P.wrap .i64 (P.sub 0 (P.wrap .i64 (P.add (-(u : Int)) 1))))) 1) = (u : Int) := by
      rw [wrap_i64 (x := P.add (-(u : Int)) 1) (by simp only [P.add]; omega) (by simp only [P.add]; omega), wrap_i64 (by simp only [P.add, P.sub]; omega) (by simp only [P.add, P.sub]; omega), wrap_u64 (x := P.sub 0 (P.add (-(u : Int)) 1)) (by simp only [P.add, P.sub]; omega) (by simp only [P.add, P.sub]; omega), wrap_u64 (by simp only [P.add, P.sub]; omega) (by simp only [P.add, P.sub]; omega)]
      simp only [P.add, P.sub]; omega
    rw [e, ref_digits u (by omega), bind_some]
    rw [Lib.itoa_neg u (by omega)] at hl ⊢
    rw [show P.ilt (-(u : Int)) 0 = true from ilt_iff.2 q, cond_true]
    have : ({ data := #[45] } : ByteArray) = B [45] := rfl
    rw [this, sfit_B _ _ (by simp only [List.length_cons, List.length_nil] at hl ⊢; omega), cond_true, scat_B]; rfl
  · obtain ⟨u, rfl⟩ : ∃ u : Nat, n = (u : Int) := ⟨n.toNat, by omega⟩
    rw [show P.ilt (u : Int) 0 = false from by rw [Bool.eq_false_iff, Ne, ilt_iff]; omega, cond_false, wrap_u64 (by omega) (by omega), ref_digits u (by omega), bind_some, Lib.itoa_nonneg]
end Go.PL
end
section
open Go Go.PG Go.PL
set_option linter.all false
namespace Go.PL
def clP (x : List Prp) : Option (List Prp) := P.cond (P.room (P.add (P.len (P.nil Prp)) (P.len x)) 32) (some x) none
def clO (x : List Ob) : Option (List Ob) := P.cond (P.room (P.add (P.len (P.nil Ob)) (P.len x)) 40) (some x) none
theorem cl_any {α : Type} (x : List α) (b : Nat) :
    P.cond (P.ilt 0 (P.len x)) (P.cond (P.not true) (some []) (P.cond (P.room (P.add (P.len (P.nil α)) (P.len x)) b) (some (P.app [] x)) none)) (P.amb (some []) (P.cond (P.room (P.add (P.len (P.nil α)) (P.len x)) b) (some (P.app [] x)) none)) = P.cond (P.room (P.add (P.len (P.nil α)) (P.len x)) b) (some x) none := by
  have e : P.app [] x = x := rfl
  rw [e]
  by_cases h0 : 0 < x.length
  · rw [show P.ilt 0 (P.len x) = true by rw [ilt_iff, len_eq]; omega]
    rfl
  · have : x = [] := List.eq_nil_of_length_eq_zero (by omega)
    subst this
    have r : P.room (P.add (P.len (P.nil α)) (P.len ([] : List α))) b = true := by
      unfold P.room P.add P.nil
      simp [P.len]
    rw [r]
    exact amb_same _
theorem cloneP_eq (k : Nat) : slices_Clone_api_Prop_api_Prop k = clP := by
  funext x
  exact cl_any x 32
theorem cloneO_eq (k : Nat) : slices_Clone_api_Obj_api_Obj k = clO := by
  funext x
  exact cl_any x 40
set_option maxRecDepth 100000 in
theorem fixed19 : law19_fixed K () = some true := by
  unfold law19_fixed store_Set store_New store_copied
  rw [cloneP_eq, cloneO_eq]
  kernel_rfl
theorem text_same (v : Val) (h : InI v.2) : ref19_Text K v = store_Text K v ∧ (store_Text K v).isSome = true := by
  unfold ref19_Text store_Text
  try dsimp only
  rw [at_itoa K v.2 h, ref_signed v.2 h]
  simp only [bind_some]
  cases P.ieq v.1 0 <;> cases P.ieq v.1 1 <;> cases P.ieq v.1 2 <;> cases P.ieq v.1 3 <;> cases P.ieq v.1 4 <;> cases P.ieq v.2 0 <;> exact ⟨rfl, rfl⟩
end Go.PL
end
section
open Go Go.PG Go.PL
set_option linter.all false
namespace Go.PL
theorem props_same (l : List Prp) (h : l.length ≤ 1000000) : ref19_Props K (l, l) = some true := by
  unfold ref19_Props
  try dsimp only
  rw [show P.ieq (P.len l) (P.len l) = true by rw [ieq_iff]]
  show (P.bind _ _) = _
  rw [iter_all (n := l.length) (e := .inl ()) (r := .inr false) (fun _ => True) K ?_ ?_ (by unfold K; omega)]
  · rw [if_pos (fun _ _ => trivial)]; rfl
  · intro i hi
    rw [if_pos trivial, len_eq, ilt_nn, decide_eq_true hi, cond_t, inb_nn, decide_eq_true hi, cond_t, cond_t, show P.and (P.seq (P.get l (i : Int) dP).1 (P.get l (i : Int) dP).1) (P.and (P.ieq (P.get l (i : Int) dP).2.1 (P.get l (i : Int) dP).2.1) (P.ieq (P.get l (i : Int) dP).2.2 (P.get l (i : Int) dP).2.2)) = true by
      rw [and_iff, and_iff, seq_iff, ieq_iff, ieq_iff]
      exact ⟨rfl, rfl, rfl⟩, wrap_succ (by omega)]
    rfl
  · rw [len_eq, ilt_nn, decide_eq_false (by omega)]; rfl
theorem store_same (s : List Ob) (h : FewO s) : ref19_Same K (s, s) = some true := by
  have hl := h.1
  unfold ref19_Same
  try dsimp only
  rw [show P.ieq (P.len s) (P.len s) = true by rw [ieq_iff]]
  show (P.bind _ _) = _
  rw [iter_all (n := s.length) (e := .inl ()) (r := .inr false) (fun _ => True) K ?_ ?_ (by unfold K; omega)]
  · rw [if_pos (fun _ _ => trivial)]; rfl
  · intro i hi
    have e : P.get s (i : Int) (([], 0, 0) : Ob) = s.getD i dO := get_nat _ _ _
    rw [if_pos trivial, len_eq, ilt_nn, decide_eq_true hi, cond_t, inb_nn, decide_eq_true hi, cond_t, cond_t, e, show P.and (P.ieq (s.getD i dO).2.1 (s.getD i dO).2.1) (P.ieq (s.getD i dO).2.2 (s.getD i dO).2.2) = true by
      rw [and_iff, ieq_iff, ieq_iff]
      exact ⟨rfl, rfl⟩]
    show P.cond _ _ _ = _
    rw [cond_t, cond_t, props_same _ (h.2 i hi), bind_some, wrap_succ (by omega)]
    rfl
  · rw [len_eq, ilt_nn, decide_eq_false (by omega)]; rfl
def SmallO (s : List Ob) : Prop := (∀ i, i < s.length → (s.getD i dO).1.length ≤ 60) ∧ s.length ≤ 100
theorem small_few {s : List Ob} (h : SmallO s) : FewO s := ⟨by have := h.2; omega, fun i hi => by have := h.1 i hi; omega⟩
theorem few_set {s : List Ob} (h : SmallO s) (i : Nat) (nm : ByteArray) (w : Val) : FewO (setS s i nm w) := by
  refine ⟨by rw [setS_len]; have := h.2; omega, fun j hj => ?_⟩
  rw [setS_len] at hj
  have hb := h.1 j hj
  by_cases q : i = j
  · subst q
    rw [setS_at hj]
    have := with_len (s.getD i dO).1 nm w
    show (withM _ _ _).length ≤ _
    omega
  · rw [setS_ne q]; omega
theorem few_app {s : List Ob} (h : SmallO s) {o : Ob} (ho : o.1.length ≤ 60) : FewO (s ++ [o]) := by
  refine ⟨by have := h.2; simp; omega, fun j hj => ?_⟩
  rw [List.length_append, List.length_singleton] at hj
  by_cases q : j < s.length
  · rw [getD_app q]; have := h.1 j q; omega
  · have : j = s.length := by omega
    subst this
    rw [List.getD_eq_getElem?_getD, List.getElem?_append_right (by omega)]
    simp
    omega
theorem few_nil : FewO [] := ⟨by simp, by simp⟩
open Classical in
theorem g19 {p : Prop} [Decidable p] {X : Option Bool} (h : p → X = some true) : P.cond (P.not (decide p)) (P.bind (law19_fixed K ()) fun r => some r) X = some true := by
  rw [fixed19, bind_some]
  by_cases q : p
  · rw [decide_eq_true q]; exact h q
  · rw [decide_eq_false q]; rfl
theorem g60 {n : Nat} {X : Option Bool} (h : n ≤ 60 → X = some true) : P.cond (P.ilt 60 (n : Int)) (P.bind (law19_fixed K ()) fun r => some r) X = some true := by
  rw [fixed19, bind_some]
  by_cases q : n ≤ 60
  · rw [show P.ilt 60 (n : Int) = false by rw [Bool.eq_false_iff, Ne, ilt_iff]; omega]; exact h q
  · rw [show P.ilt 60 (n : Int) = true by rw [ilt_iff]; omega]; rfl
theorem inI_of {n : Int} (h : (Lit.int .i64 n).wf = true) : InI n := by
  have h0 : IntKind.i64.min = -9223372036854775808 := by decide
  have h1 : IntKind.i64.max = 9223372036854775807 := by decide
  simp only [Lit.wf, Bool.and_eq_true, decide_eq_true_eq, h0, h1] at h
  unfold InI
  omega
end Go.PL
end
section
open Go Go.PG Go.PL
set_option linter.all false
namespace Go.PL
theorem beq_self (b : Bool) : P.beq b b = true := by cases b <;> rfl
theorem ieq_self (n : Int) : P.ieq n n = true := by rw [ieq_iff]
theorem val_self (v : Val) : P.and (P.ieq v.1 v.1) (P.ieq v.2 v.2) = true := by rw [ieq_self, ieq_self]; rfl
theorem fit_of {s : List Ob} (h : s.length ≤ 9223372036854775807 ∧ ∀ o, o ∈ s → o.1.length ≤ 9223372036854775807) : Fits s :=
  ⟨by have := h.1; omega, fun i hi => by have := h.2 _ (getD_mem hi dO); omega⟩
open Classical in
theorem few_setM {s : List Ob} (h : SmallO s) (v : Val) (nm : ByteArray) (w : Val) : FewO (setM s v nm w).1 := by
  unfold setM
  split
  · exact few_set h _ _ _
  · exact few_nil
theorem few_newM {s : List Ob} (h : SmallO s) {o : Ob} (ho : o.1.length ≤ 60) : FewO (newM s o).1 := by
  unfold newM
  split
  · exact few_app h ho
  · exact few_nil
abbrev Put := Val × ByteArray × Val
theorem tells19 (x : List Ob × Put × Ob) (hf : Fits x.1) (hn : InI x.2.1.2.2.2) : law19_StoreTells K x = some true := by
  obtain ⟨s, ⟨v, nm, w⟩, o⟩ := x
  unfold law19_StoreTells
  try dsimp only at hf hn ⊢
  rw [ref_small s hf, bind_some]
  refine g19 fun sm => ?_
  rw [len_eq]
  refine g60 fun lo => ?_
  have sm : SmallO s := sm
  have fo := small_few sm
  have hl := sm.2
  rw [st_get s v nm hf, bind_some, ref_get s v nm hf, bind_some, st_set s v nm w fo, bind_some, ref_set s v nm w hf (by omega) (fun i hi => by have := sm.1 i hi; omega), bind_some, st_new s o fo (by omega), bind_some, ref_new s o hf (by omega) (by omega), bind_some, fixed19, bind_some, cond_t, val_self, cond_t, beq_self, cond_t,
    store_same _ (few_setM sm v nm w), bind_some, cond_t, beq_self, cond_t, store_same _ (few_newM sm lo), bind_some, cond_t, val_self, cond_t, beq_self, cond_t, st_may s hf, bind_some, ref_may s hf, bind_some, beq_self, cond_t, st_right, bind_some, ref_right, bind_some, beq_self, cond_t]
  obtain ⟨t1, t2⟩ := text_same w hn
  rw [t1]
  obtain ⟨z, hz⟩ := Option.isSome_iff_exists.1 t2
  rw [hz, bind_some, bind_some]
  congr 1
  rw [seq_iff]
end Go.PL
end
section
open Go Go.PG Go.PL
namespace Go.PL
end Go.PL
end

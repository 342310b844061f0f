/- Lemmas for the claim. -/
import Derived.Test.YtoicfdfjjnfgaaaDoorProg
import Derived.KernelRfl
import Derived.Test.YtoicfdfjjnfgaaaDoorG4
import Derived.Lib.Strings
import Derived.Lib.Slices
import Derived.Lib.Walk
import Derived.Lib.Bytealg
import Derived.Test.YtoicfdfjjnfgaaaDoorG1
import Derived.Laws.Strings
import Derived.Lib.ItoaLen
set_option linter.all false
section
open Go Go.PG Go.Proofs
set_option linter.all false
set_option maxRecDepth 1000000
set_option maxHeartbeats 4000000
abbrev T_api_Val : Ty := .st (.pair (.int .i64) (.int .i64))
abbrev T_api_Prop : Ty := .st (.pair .str T_api_Val)
abbrev T_api_Obj : Ty := .st (.pair (.slice T_api_Prop) T_api_Val)
abbrev T_proteanlaw19_Put : Ty := .st (.pair T_api_Val (.pair .str T_api_Val))
noncomputable def T : List (Nat × TyRow) := [(3, ⟨(.int .i64), 0, false, false⟩), (4, ⟨.bool, 0, false, false⟩), (9, ⟨.str, 0, false, false⟩), (25, ⟨T_api_Val, 0, true, false⟩), (31, ⟨(.slice T_api_Obj), 40, false, false⟩), (33, ⟨T_proteanlaw19_Put, 0, true, false⟩), (34, ⟨(.slice T_api_Prop), 32, false, false⟩), (36, ⟨T_api_Obj, 0, false, false⟩), (51, ⟨T_api_Prop, 0, true, false⟩), (83, ⟨.opq, 0, false, false⟩), (86, ⟨(.int .u64), 0, false, false⟩), (91, ⟨.opq, 0, false, false⟩), (97, ⟨(.int .u64), 0, false, false⟩)]
theorem mixedOk : Tryd.prog.follows .mixedOrders = true := by kernel_rfl
theorem tabOk : tysB Tryd.prog T = true := by kernel_rfl
abbrev GG (w : World) : Prop := Lib.TabIs Tryd.prog w "internal/strconv.uint64pow10" .u64 Lib.pow10Tab
theorem f44_at : Tryd.prog.funcs[44]? = some Tryd.f44 := by kernel_rfl
theorem f44_ok : (Tryd.f44.name != "runtime.NumGoroutine" && Tryd.f44.body.isSome) = true := by kernel_rfl
theorem f57_at : Tryd.prog.funcs[57]? = some Tryd.f57 := by kernel_rfl
theorem f57_ok : (Tryd.f57.name != "runtime.NumGoroutine" && Tryd.f57.body.isSome) = true := by kernel_rfl
theorem f41_at : Tryd.prog.funcs[41]? = some Tryd.f41 := by kernel_rfl
theorem f41_ok : (Tryd.f41.name != "runtime.NumGoroutine" && Tryd.f41.body.isSome) = true := by kernel_rfl
theorem f16_at : Tryd.prog.funcs[16]? = some Tryd.f16 := by kernel_rfl
theorem f16_ok : (Tryd.f16.name != "runtime.NumGoroutine" && Tryd.f16.body.isSome) = true := by kernel_rfl
theorem f27_at : Tryd.prog.funcs[27]? = some Tryd.f27 := by kernel_rfl
theorem f27_ok : (Tryd.f27.name != "runtime.NumGoroutine" && Tryd.f27.body.isSome) = true := by kernel_rfl
theorem f25_at : Tryd.prog.funcs[25]? = some Tryd.f25 := by kernel_rfl
theorem f25_ok : (Tryd.f25.name != "runtime.NumGoroutine" && Tryd.f25.body.isSome) = true := by kernel_rfl
theorem f56_at : Tryd.prog.funcs[56]? = some Tryd.f56 := by kernel_rfl
theorem f56_ok : (Tryd.f56.name != "runtime.NumGoroutine" && Tryd.f56.body.isSome) = true := by kernel_rfl
theorem f39_at : Tryd.prog.funcs[39]? = some Tryd.f39 := by kernel_rfl
theorem f39_ok : (Tryd.f39.name != "runtime.NumGoroutine" && Tryd.f39.body.isSome) = true := by kernel_rfl
theorem f18_at : Tryd.prog.funcs[18]? = some Tryd.f18 := by kernel_rfl
theorem f18_ok : (Tryd.f18.name != "runtime.NumGoroutine" && Tryd.f18.body.isSome) = true := by kernel_rfl
theorem f20_at : Tryd.prog.funcs[20]? = some Tryd.f20 := by kernel_rfl
theorem f20_ok : (Tryd.f20.name != "runtime.NumGoroutine" && Tryd.f20.body.isSome) = true := by kernel_rfl
theorem f22_at : Tryd.prog.funcs[22]? = some Tryd.f22 := by kernel_rfl
theorem f22_ok : (Tryd.f22.name != "runtime.NumGoroutine" && Tryd.f22.body.isSome) = true := by kernel_rfl
theorem f29_at : Tryd.prog.funcs[29]? = some Tryd.f29 := by kernel_rfl
theorem f29_ok : (Tryd.f29.name != "runtime.NumGoroutine" && Tryd.f29.body.isSome) = true := by kernel_rfl
theorem f36_at : Tryd.prog.funcs[36]? = some Tryd.f36 := by kernel_rfl
theorem f36_ok : (Tryd.f36.name != "runtime.NumGoroutine" && Tryd.f36.body.isSome) = true := by kernel_rfl
theorem f37_at : Tryd.prog.funcs[37]? = some Tryd.f37 := by kernel_rfl
theorem f37_ok : (Tryd.f37.name != "runtime.NumGoroutine" && Tryd.f37.body.isSome) = true := by kernel_rfl
theorem f38_at : Tryd.prog.funcs[38]? = some Tryd.f38 := by kernel_rfl
theorem f38_ok : (Tryd.f38.name != "runtime.NumGoroutine" && Tryd.f38.body.isSome) = true := by kernel_rfl
theorem f17_at : Tryd.prog.funcs[17]? = some Tryd.f17 := by kernel_rfl
theorem f17_ok : (Tryd.f17.name != "runtime.NumGoroutine" && Tryd.f17.body.isSome) = true := by kernel_rfl
theorem f28_at : Tryd.prog.funcs[28]? = some Tryd.f28 := by kernel_rfl
theorem f28_ok : (Tryd.f28.name != "runtime.NumGoroutine" && Tryd.f28.body.isSome) = true := by kernel_rfl
theorem f26_at : Tryd.prog.funcs[26]? = some Tryd.f26 := by kernel_rfl
theorem f26_ok : (Tryd.f26.name != "runtime.NumGoroutine" && Tryd.f26.body.isSome) = true := by kernel_rfl
theorem f31_at : Tryd.prog.funcs[31]? = some Tryd.f31 := by kernel_rfl
theorem f31_ok : (Tryd.f31.name != "runtime.NumGoroutine" && Tryd.f31.body.isSome) = true := by kernel_rfl
theorem f24_at : Tryd.prog.funcs[24]? = some Tryd.f24 := by kernel_rfl
theorem f24_ok : (Tryd.f24.name != "runtime.NumGoroutine" && Tryd.f24.body.isSome) = true := by kernel_rfl
theorem f8_at : Tryd.prog.funcs[8]? = some Tryd.f8 := by kernel_rfl
theorem f71_at : Tryd.prog.funcs[71]? = some Tryd.f71 := by kernel_rfl
theorem f71_ok : (Tryd.f71.name != "runtime.NumGoroutine" && Tryd.f71.body.isSome) = true := by kernel_rfl
theorem f72_at : Tryd.prog.funcs[72]? = some Tryd.f72 := by kernel_rfl
theorem f72_ok : (Tryd.f72.name != "runtime.NumGoroutine" && Tryd.f72.body.isSome) = true := by kernel_rfl
theorem f45_at : Tryd.prog.funcs[45]? = some Tryd.f45 := by kernel_rfl
theorem f45_ok : (Tryd.f45.name != "runtime.NumGoroutine" && Tryd.f45.body.isSome) = true := by kernel_rfl
theorem f59_at : Tryd.prog.funcs[59]? = some Tryd.f59 := by kernel_rfl
theorem f59_ok : (Tryd.f59.name != "runtime.NumGoroutine" && Tryd.f59.body.isSome) = true := by kernel_rfl
theorem f46_at : Tryd.prog.funcs[46]? = some Tryd.f46 := by kernel_rfl
theorem f46_ok : (Tryd.f46.name != "runtime.NumGoroutine" && Tryd.f46.body.isSome) = true := by kernel_rfl
theorem f73_at : Tryd.prog.funcs[73]? = some Tryd.f73 := by kernel_rfl
theorem f73_ok : (Tryd.f73.name != "runtime.NumGoroutine" && Tryd.f73.body.isSome) = true := by kernel_rfl
noncomputable def codes : List (Nat × Func × List (Nat × Hint)) := [(71, Tryd.f71, [(3, ⟨[.var 9 (.d (.int .i64)), .var 10 (.d (.int .i64))], [], (some (0, [.var 9 (.d (.int .i64))]))⟩)]), (72, Tryd.f72, []), (45, Tryd.f45, []), (59, Tryd.f59, [])]
theorem codesOk : CodesOk Tryd.prog codes := .cons f71_at f71_ok <| .cons f72_at f72_ok <| .cons f45_at f45_ok <| .cons f59_at f59_ok <| .nil
theorem ggKeep : ∀ w w' : World, GG w → Go.RowKit.Below w.heap.size w w' → GG w' := fun w w' h hb => by
  show World.var? Tryd.prog w' _ = _
  have h : World.var? Tryd.prog w _ = _ := h
  unfold World.var? at h ⊢
  cases hg : Tryd.prog.globalNamed "internal/strconv.uint64pow10" with
  | none => rw [hg] at h; cases h
  | some g =>
    rw [hg] at h
    simp only [Option.bind_some] at h ⊢
    have hlt : g < w.heap.size := by
      rcases Nat.lt_or_ge g w.heap.size with q | q
      · exact q
      · rw [Array.getElem?_eq_none q] at h; cases h
    rw [hb.block g hlt]
    exact h
def strconv_Itoa (_k : Nat) (n : Int) : Option ByteArray := if -9223372036854775808 ≤ n ∧ n ≤ 9223372036854775807 then some ⟨(Lib.itoa n).toArray⟩ else none
theorem strconv_Itoa_spec (k : Nat) : SpecOk Tryd.prog GG 46 ⟨(.int .i64), .str, strconv_Itoa k⟩ := by
  intro Z w vals x r hG _ hx ha
  simp only [strconv_Itoa] at hx
  split at hx
  case isFalse => cases hx
  rename_i hb
  injection hx with hx
  simp only [argAV, RepT] at ha
  obtain ⟨v1, e1, h1⟩ := ha
  have h1 := repV_int (k := .i64) (n := x) (by simpa only [RepV] using h1)
  subst h1
  obtain rfl : vals = #[.int .i64 x] := Array.toList_inj.1 (by simpa using e1)
  refine (Tryd.strconv_Itoa x hb.1 hb.2 w hG).mono fun e w' ⟨he, k, os, hw⟩ => ⟨_, he, ?_, ?_⟩
  · rw [hw]
    refine ⟨rfl, rfl, rfl, ?_, fun j hj => ?_⟩
    · show w.heap.size ≤ (w.heap ++ os).size
      simp
    · show (w.heap ++ os)[j]? = w.heap[j]?
      exact Array.getElem?_append_left hj
  · rw [← hx]; simp [resAV, RepV, RepD, isSt]
def strings_Compare (_k : Nat) (x : ByteArray × ByteArray) : Option Int := some (Lib.compareBytes x.1.data.toList x.2.data.toList)
section
open Go.RowKit
theorem cmpIn (a b : ByteArray) (w : World) : Calls Tryd.prog 79 #[.string a, .string b] w fun e w' => e = .returned (.int .i64 (Lib.compareBytes a.data.toList b.data.toList)) ∧ w' = w := by
  go_enter Tryd.func79, Tryd.ntmps79
  go_wp2
  rw [run_callFunc_extern Tryd.func85 (by kernel_rfl) (by kernel_rfl) (by kernel_rfl) (e := Extern.BytealgCompare.compare) (by kernel_rfl), Lib.run_compareString]
  simp only [Result.andThen]
  rw [Oper.upon_value]
  go_wp2
  go_ret
  exact ⟨rfl, rfl⟩
theorem cmpOut (a b : ByteArray) (w : World) : Calls Tryd.prog 73 #[.string a, .string b] w fun e w' => e = .returned (.int .i64 (Lib.compareBytes a.data.toList b.data.toList)) ∧ w' = w := by
  go_enter Tryd.func73, Tryd.ntmps73
  go_wp2_with (go_at_call 79; refine (cmpIn _ _ _).mono ?_; rintro e w' ⟨rfl, rfl⟩)
  go_ret
  exact ⟨rfl, rfl⟩
end
theorem strings_Compare_spec (k : Nat) : SpecOk Tryd.prog GG 73 ⟨(.pair .str .str), (.int .i64), strings_Compare k⟩ := by
  intro Z w vals x r _ _ hx ha
  have hx : Lib.compareBytes x.1.data.toList x.2.data.toList = r := by simpa [strings_Compare] using hx
  simp only [argAV, RepT] at ha
  obtain ⟨v1, l1, e1, h1, h2⟩ := ha
  obtain ⟨v2, rfl, h2⟩ := h2
  have h1 := repV_str h1
  have h2 : v2 = .string x.2 := repV_str (c := cz Z w) (by simpa only [RepV] using h2)
  subst h1; subst h2
  obtain rfl : vals = #[.string x.1, .string x.2] := Array.toList_inj.1 (by simpa using e1)
  refine (cmpOut x.1 x.2 w).mono fun e w' ⟨he, hw⟩ => ⟨_, he, ?_, ?_⟩
  · rw [hw]; exact Go.RowKit.Below.refl _ _
  · rw [hx]; simp [resAV, RepV, RepD, isSt]
theorem f58_at : Tryd.prog.funcs[58]? = some Tryd.f58 := by kernel_rfl
theorem f58_ok : (Tryd.f58.name != "runtime.NumGoroutine" && Tryd.f58.body.isSome) = true := by kernel_rfl
theorem insOk : InssOk Tryd.prog GG [(58, T_api_Prop, 32)] := .cons (InsP.ins_ok rfl) ⟨51, okB_spec (by kernel_rfl)⟩ f58_at f58_ok .nil
theorem f42_at : Tryd.prog.funcs[42]? = some Tryd.f42 := by kernel_rfl
theorem f42_ok : (Tryd.f42.name != "runtime.NumGoroutine" && Tryd.f42.body.isSome) = true := by kernel_rfl
noncomputable def codesS : List (Nat × Func × List (Nat × Hint)) := [(71, Tryd.f71, [(3, ⟨[.var 9 (.d (.int .i64)), .var 10 (.d (.int .i64))], [], (some (0, [.var 9 (.d (.int .i64))]))⟩)]), (72, Tryd.f72, []), (45, Tryd.f45, []), (59, Tryd.f59, []), (41, Tryd.f41, [(3, ⟨[.var 10 (.d (.int .i64)), .box 3 [] (.p (.o T_api_Prop) (.p (.d (.int .i64)) (.p (.d .bool) (.d (tieL T_api_Prop T_api_Val)))))], [], (some (0, [.box 3 [] (.p (.o T_api_Prop) (.p (.d (.int .i64)) (.p (.d .bool) (.d (tieL T_api_Prop T_api_Val)))))]))⟩)]), (42, Tryd.f42, [])]
theorem codesSOk : CodesOk Tryd.prog codesS := .cons f71_at f71_ok <| .cons f72_at f72_ok <| .cons f45_at f45_ok <| .cons f59_at f59_ok <| .cons f41_at f41_ok <| .cons f42_at f42_ok <| .nil
noncomputable abbrev EN (k : Nat) (sp : List (Nat × Go.PG.Spec)) : Go.PG.Env := { T := T, specs := sp, codes := codes, k := k }
noncomputable def slices_Clone_api_Prop_api_Prop : (k : Nat) → (Ty.D (.slice T_api_Prop)) → Option (Ty.D (.slice T_api_Prop)) := fun (k : Nat) (x : T_api_Prop.slice.D) => P.cond (P.ilt ((0 : Int)) (P.len x)) (P.cond (P.not true) (some []) (P.cond (P.room (P.add (P.len (P.nil (ByteArray × Int × Int))) (P.len x)) 32) (some (P.app [] x)) none)) (P.amb (some []) (P.cond (P.room (P.add (P.len (P.nil (ByteArray × Int × Int))) (P.len x)) 32) (some (P.app [] x)) none))
theorem slices_Clone_api_Prop_api_Prop_eq (k : Nat) (x : (Ty.D (.slice T_api_Prop))) : evFn (EN k []) 6 Tryd.f44 [] (.slice T_api_Prop) (.slice T_api_Prop) x = slices_Clone_api_Prop_api_Prop k x := by kernel_rfl
theorem slices_Clone_api_Prop_api_Prop_spec (k : Nat) : SpecOk Tryd.prog GG 44 ⟨(.slice T_api_Prop), (.slice T_api_Prop), slices_Clone_api_Prop_api_Prop k⟩ :=
  fn_spec (envOk (E := EN k []) tabOk (.nil) codesOk mixedOk ggKeep) f44_at (fun x => (slices_Clone_api_Prop_api_Prop_eq k x).symm)
theorem slices_Clone_api_Prop_api_Prop_eqO (k : Nat) (x : (Ty.D (.slice T_api_Prop))) : evFnO (EN k []) 6 Tryd.f44 [] (.slice T_api_Prop) T_api_Prop x = slices_Clone_api_Prop_api_Prop k x := by kernel_rfl
theorem slices_Clone_api_Prop_api_Prop_ospec (k : Nat) : OSpecOk Tryd.prog GG 44 ⟨(.slice T_api_Prop), T_api_Prop, slices_Clone_api_Prop_api_Prop k⟩ :=
  fn_ospec (envOk (E := EN k []) tabOk (.nil) codesOk mixedOk ggKeep) f44_at (fun x => (slices_Clone_api_Prop_api_Prop_eqO k x).symm)
noncomputable def slices_Clone_api_Obj_api_Obj : (k : Nat) → (Ty.D (.slice T_api_Obj)) → Option (Ty.D (.slice T_api_Obj)) := fun (k : Nat) (x : T_api_Obj.slice.D) => P.cond (P.ilt ((0 : Int)) (P.len x)) (P.cond (P.not true) (some []) (P.cond (P.room (P.add (P.len (P.nil (List (ByteArray × Int × Int) × Int × Int))) (P.len x)) 40) (some (P.app [] x)) none)) (P.amb (some []) (P.cond (P.room (P.add (P.len (P.nil (List (ByteArray × Int × Int) × Int × Int))) (P.len x)) 40) (some (P.app [] x)) none))
theorem slices_Clone_api_Obj_api_Obj_eqO (k : Nat) (x : (Ty.D (.slice T_api_Obj))) : evFnO (EN k []) 6 Tryd.f57 [] (.slice T_api_Obj) T_api_Obj x = slices_Clone_api_Obj_api_Obj k x := by kernel_rfl
theorem slices_Clone_api_Obj_api_Obj_ospec (k : Nat) : OSpecOk Tryd.prog GG 57 ⟨(.slice T_api_Obj), T_api_Obj, slices_Clone_api_Obj_api_Obj k⟩ :=
  fn_ospec (envOk (E := EN k []) tabOk (.nil) codesOk mixedOk ggKeep) f57_at (fun x => (slices_Clone_api_Obj_api_Obj_eqO k x).symm)
noncomputable def store_copied : (k : Nat) → (Ty.D (.slice T_api_Obj)) → Option (Ty.D (.slice T_api_Obj)) := fun (k : Nat) (x : T_api_Obj.slice.D) => P.bind (slices_Clone_api_Obj_api_Obj k x) fun (r : List (List (ByteArray × Int × Int) × Int × Int)) => P.bind (P.iter k (fun (y : Int × List (List (ByteArray × Int × Int) × Int × Int)) => P.cond (P.ilt y.fst (P.len r)) (P.cond (P.inb y.fst (P.len y.snd)) (P.bind (slices_Clone_api_Prop_api_Prop k (P.get y.snd y.fst ([], (0 : Int), (0 : Int))).fst) fun (r : List (ByteArray × Int × Int)) => P.cond (P.inb y.fst (P.len y.snd)) (some (Sum.inl (P.wrap IntKind.i64 (P.add y.fst ((1 : Int))), P.set y.snd y.fst (r, (P.get y.snd y.fst ([], (0 : Int), (0 : Int))).snd)))) none) none) (some (Sum.inr (Sum.inl y.snd)))) ((0 : Int), r)) (P.either (fun (z : List (List (ByteArray × Int × Int) × Int × Int)) => some z) fun (r : List (List (ByteArray × Int × Int) × Int × Int)) => some r)
noncomputable abbrev EN41 (k : Nat) (sp : List (Nat × Go.PG.Spec)) : Go.PG.Env := { T := T, specs := sp, codes := codes, k := k, ospecs := [(57, ⟨(.slice T_api_Obj), T_api_Obj, slices_Clone_api_Obj_api_Obj k⟩)] }
theorem store_copied_eqO (k : Nat) (x : (Ty.D (.slice T_api_Obj))) : evFnO (EN41 k [(44, ⟨(.slice T_api_Prop), (.slice T_api_Prop), slices_Clone_api_Prop_api_Prop k⟩)]) 6 Tryd.f41 [(3, ⟨[.var 10 (.d (.int .i64)), .cel 3 [] (.st (.pair (.slice (.st (.pair .str (.st (.pair (.int .i64) (.int .i64)))))) (.st (.pair (.int .i64) (.int .i64)))))], [], (some (0, [.cel 3 [] (.st (.pair (.slice (.st (.pair .str (.st (.pair (.int .i64) (.int .i64)))))) (.st (.pair (.int .i64) (.int .i64)))))]))⟩)] (.slice T_api_Obj) T_api_Obj x = store_copied k x := by kernel_rfl
theorem store_copied_ospec (k : Nat) : OSpecOk Tryd.prog GG 41 ⟨(.slice T_api_Obj), T_api_Obj, store_copied k⟩ :=
  fn_ospec (envOk (E := EN41 k [(44, ⟨(.slice T_api_Prop), (.slice T_api_Prop), slices_Clone_api_Prop_api_Prop k⟩)]) tabOk (.cons (slices_Clone_api_Prop_api_Prop_spec k) f44_at f44_ok <| .nil) codesOk mixedOk ggKeep (ho := .cons (slices_Clone_api_Obj_api_Obj_ospec k) f57_at f57_ok <| .nil)) f41_at (fun x => (store_copied_eqO k x).symm)
noncomputable def ref19_Small : (k : Nat) → (Ty.D (.slice T_api_Obj)) → Option (Ty.D .bool) := fun (k : Nat) (x : T_api_Obj.slice.D) => P.bind (P.iter k (fun (y : Int) => P.cond (P.ilt y (P.len x)) (P.cond (P.inb y (P.len x)) (P.cond (P.ilt ((60 : Int)) (P.len (P.get x y ([], (0 : Int), (0 : Int))).fst)) (some (Sum.inr (Sum.inr false))) (some (Sum.inl (P.wrap IntKind.i64 (P.add y ((1 : Int))))))) none) (some (Sum.inr (Sum.inl PUnit.unit)))) ((0 : Int))) (P.either (fun (z : PUnit) => some (P.ile (P.len x) ((100 : Int)))) fun (r : Bool) => some r)
theorem ref19_Small_eq (k : Nat) (x : (Ty.D (.slice T_api_Obj))) : evFn (EN k []) 6 Tryd.f16 [(2, ⟨[.var 3 (.d (.int .i64))], [], (some (0, []))⟩)] (.slice T_api_Obj) .bool x = ref19_Small k x := by kernel_rfl
theorem ref19_Small_spec (k : Nat) : SpecOk Tryd.prog GG 16 ⟨(.slice T_api_Obj), .bool, ref19_Small k⟩ :=
  fn_spec (envOk (E := EN k []) tabOk (.nil) codesOk mixedOk ggKeep) f16_at (fun x => (ref19_Small_eq k x).symm)
noncomputable def store_Right : (k : Nat) → (Ty.D (.pair (.slice T_api_Obj) T_api_Val)) → Option (Ty.D .bool) := fun (k : Nat) (x : (T_api_Obj.slice.pair T_api_Val).D) => P.cond (P.ieq x.snd.fst ((0 : Int))) (some (P.ieq x.snd.snd ((0 : Int)))) (P.cond (P.ieq x.snd.fst ((1 : Int))) (P.cond (P.ieq x.snd.snd ((0 : Int))) (some true) (some (P.ieq x.snd.snd ((1 : Int))))) (P.cond (P.ieq x.snd.fst ((2 : Int))) (some true) (P.cond (P.ieq x.snd.fst ((3 : Int))) (some (P.ile ((0 : Int)) x.snd.snd)) (P.cond (P.ieq x.snd.fst ((4 : Int))) (P.cond (P.ile ((0 : Int)) x.snd.snd) (some (P.ilt x.snd.snd (P.len x.fst))) (some false)) (some false)))))
theorem store_Right_eq (k : Nat) (x : (Ty.D (.pair (.slice T_api_Obj) T_api_Val))) : evFn (EN k []) 6 Tryd.f27 [] (.pair (.slice T_api_Obj) T_api_Val) .bool x = store_Right k x := by kernel_rfl
theorem store_Right_spec (k : Nat) : SpecOk Tryd.prog GG 27 ⟨(.pair (.slice T_api_Obj) T_api_Val), .bool, store_Right k⟩ :=
  fn_spec (envOk (E := EN k []) tabOk (.nil) codesOk mixedOk ggKeep) f27_at (fun x => (store_Right_eq k x).symm)
noncomputable def store_May : (k : Nat) → (Ty.D (.slice T_api_Obj)) → Option (Ty.D .bool) := fun (k : Nat) (x : T_api_Obj.slice.D) => P.bind (P.iter k (fun (y : Int) => P.cond (P.ilt y (P.len x)) (P.cond (P.inb y (P.len x)) (P.bind (P.iter k (fun (y_1 : Int) => P.cond (P.ilt y_1 (P.len (P.get x y ([], (0 : Int), (0 : Int))).fst)) (P.cond (P.inb y_1 (P.len (P.get x y ([], (0 : Int), (0 : Int))).fst)) (P.bind (store_Right k (x, (P.get (P.get x y ([], (0 : Int), (0 : Int))).fst y_1 ((ByteArray.mk #[]), (0 : Int), (0 : Int))).snd)) fun (r : Bool) => P.cond (P.not r) (some (Sum.inr (Sum.inr (Sum.inr (Sum.inr false))))) (P.cond (P.ilt ((0 : Int)) y_1) (P.cond (P.inb (P.wrap IntKind.i64 (P.sub y_1 ((1 : Int)))) (P.len (P.get x y ([], (0 : Int), (0 : Int))).fst)) (P.cond (P.not (P.slt (P.get (P.get x y ([], (0 : Int), (0 : Int))).fst (P.wrap IntKind.i64 (P.sub y_1 ((1 : Int)))) ((ByteArray.mk #[]), (0 : Int), (0 : Int))).fst (P.get (P.get x y ([], (0 : Int), (0 : Int))).fst y_1 ((ByteArray.mk #[]), (0 : Int), (0 : Int))).fst)) (some (Sum.inr (Sum.inr (Sum.inr (Sum.inr false))))) (some (Sum.inl (P.wrap IntKind.i64 (P.add y_1 ((1 : Int))))))) none) (some (Sum.inl (P.wrap IntKind.i64 (P.add y_1 ((1 : Int)))))))) none) (some (Sum.inr (Sum.inl PUnit.unit)))) ((0 : Int))) (P.either (fun (z : PUnit) => P.cond (P.not (P.and (P.ieq (P.get x y ([], (0 : Int), (0 : Int))).snd.fst ((0 : Int))) (P.ieq (P.get x y ([], (0 : Int), (0 : Int))).snd.snd ((0 : Int))))) (P.cond (P.not (P.ieq (P.get x y ([], (0 : Int), (0 : Int))).snd.fst ((4 : Int)))) (some (Sum.inr (Sum.inr false))) (P.cond (P.ilt (P.get x y ([], (0 : Int), (0 : Int))).snd.snd ((0 : Int))) (some (Sum.inr (Sum.inr false))) (P.cond (P.ile y (P.get x y ([], (0 : Int), (0 : Int))).snd.snd) (some (Sum.inr (Sum.inr false))) (some (Sum.inl (P.wrap IntKind.i64 (P.add y ((1 : Int))))))))) (some (Sum.inl (P.wrap IntKind.i64 (P.add y ((1 : Int))))))) fun (r : Int ⊕ PUnit ⊕ Bool) => some r)) none) (some (Sum.inr (Sum.inl PUnit.unit)))) ((0 : Int))) (P.either (fun (z : PUnit) => some true) fun (r : Bool) => some r)
theorem store_May_eq (k : Nat) (x : (Ty.D (.slice T_api_Obj))) : evFn (EN k [(27, ⟨(.pair (.slice T_api_Obj) T_api_Val), .bool, store_Right k⟩)]) 6 Tryd.f25 [(2, ⟨[.var 9 (.d (.int .i64))], [], (some (0, []))⟩), (5, ⟨[.var 17 (.d (.int .i64))], [], (some (2, []))⟩)] (.slice T_api_Obj) .bool x = store_May k x := by kernel_rfl
theorem store_May_spec (k : Nat) : SpecOk Tryd.prog GG 25 ⟨(.slice T_api_Obj), .bool, store_May k⟩ :=
  fn_spec (envOk (E := EN k [(27, ⟨(.pair (.slice T_api_Obj) T_api_Val), .bool, store_Right k⟩)]) tabOk (.cons (store_Right_spec k) f27_at f27_ok <| .nil) codesOk mixedOk ggKeep) f25_at (fun x => (store_May_eq k x).symm)
noncomputable def store_find : (k : Nat) → (Ty.D (.pair T_api_Obj .str)) → Option (Ty.D (.pair (.int .i64) .bool)) := fun (k : Nat) (x : (T_api_Obj.pair Ty.str).D) => P.bind (P.iter k (fun (y : Int × Int) => P.cond (P.ilt y.fst y.snd) (P.cond (P.ile ((0 : Int)) ((1 : Int))) (P.cond (P.inb (P.wrap IntKind.i64 (P.shrk IntKind.u64 (P.wrap IntKind.u64 (P.wrap IntKind.i64 (P.add y.fst y.snd))) ((1 : Int)))) (P.len x.fst.fst)) (P.bind (strings_Compare k ((P.get x.fst.fst (P.wrap IntKind.i64 (P.shrk IntKind.u64 (P.wrap IntKind.u64 (P.wrap IntKind.i64 (P.add y.fst y.snd))) ((1 : Int)))) ((ByteArray.mk #[]), (0 : Int), (0 : Int))).fst, x.snd)) fun (r : Int) => P.cond (P.ilt r ((0 : Int))) (some (Sum.inl (P.wrap IntKind.i64 (P.add (P.wrap IntKind.i64 (P.shrk IntKind.u64 (P.wrap IntKind.u64 (P.wrap IntKind.i64 (P.add y.fst y.snd))) ((1 : Int)))) ((1 : Int))), y.snd))) (some (Sum.inl (y.fst, P.wrap IntKind.i64 (P.shrk IntKind.u64 (P.wrap IntKind.u64 (P.wrap IntKind.i64 (P.add y.fst y.snd))) ((1 : Int))))))) none) none) (some (Sum.inr (Sum.inl y.fst)))) ((0 : Int), P.len x.fst.fst)) (P.either (fun (z : Int) => P.cond (P.ilt z (P.len x.fst.fst)) (P.cond (P.inb z (P.len x.fst.fst)) (P.bind (strings_Compare k ((P.get x.fst.fst z ((ByteArray.mk #[]), (0 : Int), (0 : Int))).fst, x.snd)) fun (r : Int) => some (z, P.ieq r ((0 : Int)))) none) (some (z, false))) fun (r : Int × Bool) => some r)
theorem store_find_eq (k : Nat) (x : (Ty.D (.pair T_api_Obj .str))) : evFn (EN k [(73, ⟨(.pair .str .str), (.int .i64), strings_Compare k⟩)]) 6 Tryd.f56 [] (.pair T_api_Obj .str) (.pair (.int .i64) .bool) x = store_find k x := by kernel_rfl
theorem store_find_spec (k : Nat) : SpecOk Tryd.prog GG 56 ⟨(.pair T_api_Obj .str), (.pair (.int .i64) .bool), store_find k⟩ :=
  fn_spec (envOk (E := EN k [(73, ⟨(.pair .str .str), (.int .i64), strings_Compare k⟩)]) tabOk (.cons (strings_Compare_spec k) f73_at f73_ok <| .nil) codesOk mixedOk ggKeep) f56_at (fun x => (store_find_eq k x).symm)
noncomputable def store_Look : (k : Nat) → (Ty.D (.pair (.slice T_api_Obj) (.pair T_api_Val .str))) → Option (Ty.D (.pair T_api_Val .bool)) := fun (k : Nat) (x : (T_api_Obj.slice.pair (T_api_Val.pair Ty.str)).D) => P.bind (P.iter k (fun (y : Int × Int) => P.cond (P.ieq y.fst ((4 : Int))) (P.bind (store_Right k (x.fst, y)) fun (r : Bool) => P.cond r (P.cond (P.inb y.snd (P.len x.fst)) (P.bind (store_find k (P.get x.fst y.snd ([], (0 : Int), (0 : Int)), x.snd.snd)) fun (r : Int × Bool) => P.cond r.snd (P.cond (P.inb r.fst (P.len (P.get x.fst y.snd ([], (0 : Int), (0 : Int))).fst)) (some (Sum.inr (Sum.inr ((P.get (P.get x.fst y.snd ([], (0 : Int), (0 : Int))).fst r.fst ((ByteArray.mk #[]), (0 : Int), (0 : Int))).snd, true)))) none) (some (Sum.inl (P.get x.fst y.snd ([], (0 : Int), (0 : Int))).snd))) none) (some (Sum.inr (Sum.inl PUnit.unit)))) (some (Sum.inr (Sum.inl PUnit.unit)))) x.snd.fst) (P.either (fun (z : PUnit) => some (((0 : Int), (0 : Int)), false)) fun (r : (Int × Int) × Bool) => some r)
theorem store_Look_eq (k : Nat) (x : (Ty.D (.pair (.slice T_api_Obj) (.pair T_api_Val .str)))) : evFn (EN k [(27, ⟨(.pair (.slice T_api_Obj) T_api_Val), .bool, store_Right k⟩), (56, ⟨(.pair T_api_Obj .str), (.pair (.int .i64) .bool), store_find k⟩)]) 6 Tryd.f39 [(1, ⟨[.box 4 [] (.d (.st (.pair (.int .i64) (.int .i64))))], [6], (some (0, []))⟩)] (.pair (.slice T_api_Obj) (.pair T_api_Val .str)) (.pair T_api_Val .bool) x = store_Look k x := by kernel_rfl
theorem store_Look_spec (k : Nat) : SpecOk Tryd.prog GG 39 ⟨(.pair (.slice T_api_Obj) (.pair T_api_Val .str)), (.pair T_api_Val .bool), store_Look k⟩ :=
  fn_spec (envOk (E := EN k [(27, ⟨(.pair (.slice T_api_Obj) T_api_Val), .bool, store_Right k⟩), (56, ⟨(.pair T_api_Obj .str), (.pair (.int .i64) .bool), store_find k⟩)]) tabOk (.cons (store_Right_spec k) f27_at f27_ok <| .cons (store_find_spec k) f56_at f56_ok <| .nil) codesOk mixedOk ggKeep) f39_at (fun x => (store_Look_eq k x).symm)
noncomputable def store_Get : (k : Nat) → (Ty.D (.pair (.slice T_api_Obj) (.pair T_api_Val .str))) → Option (Ty.D (.pair T_api_Val .bool)) := fun (k : Nat) (x : (T_api_Obj.slice.pair (T_api_Val.pair Ty.str)).D) => P.bind (store_May k x.fst) fun (r : Bool) => P.cond (P.not r) (some (((0 : Int), (0 : Int)), false)) (P.bind (store_Look k (x.fst, x.snd.fst, x.snd.snd)) fun (r : (Int × Int) × Bool) => some (r.fst, r.snd))
theorem store_Get_eq (k : Nat) (x : (Ty.D (.pair (.slice T_api_Obj) (.pair T_api_Val .str)))) : evFn (EN k [(25, ⟨(.slice T_api_Obj), .bool, store_May k⟩), (39, ⟨(.pair (.slice T_api_Obj) (.pair T_api_Val .str)), (.pair T_api_Val .bool), store_Look k⟩)]) 6 Tryd.f18 [] (.pair (.slice T_api_Obj) (.pair T_api_Val .str)) (.pair T_api_Val .bool) x = store_Get k x := by kernel_rfl
theorem store_Get_spec (k : Nat) : SpecOk Tryd.prog GG 18 ⟨(.pair (.slice T_api_Obj) (.pair T_api_Val .str)), (.pair T_api_Val .bool), store_Get k⟩ :=
  fn_spec (envOk (E := EN k [(25, ⟨(.slice T_api_Obj), .bool, store_May k⟩), (39, ⟨(.pair (.slice T_api_Obj) (.pair T_api_Val .str)), (.pair T_api_Val .bool), store_Look k⟩)]) tabOk (.cons (store_May_spec k) f25_at f25_ok <| .cons (store_Look_spec k) f39_at f39_ok <| .nil) codesOk mixedOk ggKeep) f18_at (fun x => (store_Get_eq k x).symm)
noncomputable def store_Set : (k : Nat) → (Ty.D (.pair (.slice T_api_Obj) (.pair T_api_Val (.pair .str T_api_Val)))) → Option (Ty.D (.pair (.slice T_api_Obj) .bool)) := fun (k : Nat) (x : (T_api_Obj.slice.pair (T_api_Val.pair (Ty.str.pair T_api_Val))).D) => P.bind (store_May k x.fst) fun (r : Bool) => P.cond (P.not r) (some ([], false)) (P.cond (P.not (P.ieq x.snd.fst.fst ((4 : Int)))) (some ([], false)) (P.bind (store_Right k (x.fst, x.snd.fst)) fun (r : Bool) => P.cond (P.not r) (some ([], false)) (P.bind (store_Right k (x.fst, x.snd.snd.snd)) fun (r : Bool) => P.cond (P.not r) (some ([], false)) (P.bind (slices_Clone_api_Obj_api_Obj k x.fst) fun (r : List (List (ByteArray × Int × Int) × Int × Int)) => P.bind (P.iter k (fun (y : Int × List (ByteArray × Int × Int) × Int × Bool × List ((List (ByteArray × Int × Int) × Int × Int) × Option (List (ByteArray × Int × Int)))) => P.cond (P.ilt y.fst (P.len (P.twrap (γ := List (ByteArray × Int × Int)) r))) (P.cond (P.inb y.fst (P.len y.snd.snd.snd.snd)) (P.cond (P.not (P.and y.snd.snd.snd.fst (P.ieq y.fst y.snd.snd.fst))) (P.bind (slices_Clone_api_Prop_api_Prop k (P.tget y.snd.snd.snd.snd y.fst ([], (0 : Int), (0 : Int))).fst) fun (r : List (ByteArray × Int × Int)) => P.cond (P.inb y.fst (P.len y.snd.snd.snd.snd)) (P.cond (P.ieq y.fst y.snd.snd.fst) (some (Sum.inl (P.wrap IntKind.i64 (P.add y.fst ((1 : Int))), r, y.snd.snd.fst, true, y.snd.snd.snd.snd))) (some (Sum.inl (P.wrap IntKind.i64 (P.add y.fst ((1 : Int))), y.snd.fst, y.snd.snd.fst, y.snd.snd.snd.fst, P.tput y.snd.snd.snd.snd y.fst r ([], (0 : Int), (0 : Int)))))) none) none) none) (some (Sum.inr (Sum.inl (y.snd.fst, y.snd.snd.fst, y.snd.snd.snd.fst, y.snd.snd.snd.snd))))) ((0 : Int), [], x.snd.fst.snd, false, P.twrap (γ := List (ByteArray × Int × Int)) r)) (P.either (fun (z : List (ByteArray × Int × Int) × Int × Bool × List ((List (ByteArray × Int × Int) × Int × Int) × Option (List (ByteArray × Int × Int)))) => P.cond (P.inb x.snd.fst.snd (P.len z.snd.snd.snd)) (P.cond (P.and z.snd.snd.fst (P.ieq x.snd.fst.snd z.snd.fst)) (P.bind (store_find k ((z.fst, (P.tget z.snd.snd.snd x.snd.fst.snd ([], (0 : Int), (0 : Int))).snd), x.snd.snd.fst)) fun (r : Int × Bool) => P.cond r.snd (P.cond (P.and z.snd.snd.fst (P.ieq x.snd.fst.snd z.snd.fst)) (P.cond (P.inb r.fst (P.len z.fst)) (some (P.tres z.snd.snd.fst z.snd.fst z.snd.snd.snd (P.set z.fst r.fst ((P.get z.fst r.fst ((ByteArray.mk #[]), (0 : Int), (0 : Int))).fst, x.snd.snd.snd)) ([], (0 : Int), (0 : Int)), true)) none) none) (P.cond (P.and z.snd.snd.fst (P.ieq x.snd.fst.snd z.snd.fst)) (P.cond (P.ilt ((0 : Int)) (P.len [(x.snd.snd.fst, x.snd.snd.snd)])) (P.cond (P.cut ((0 : Int)) r.fst (P.len z.fst)) (P.cond (P.room (P.add (P.len z.fst) (P.len [(x.snd.snd.fst, x.snd.snd.snd)])) 32) (P.cond (P.ieq x.snd.fst.snd z.snd.fst) (some (P.tres true z.snd.fst z.snd.snd.snd (P.insAt z.fst r.fst [(x.snd.snd.fst, x.snd.snd.snd)]) ([], (0 : Int), (0 : Int)), true)) none) none) none) none) none)) none) none) fun (r : List (List (ByteArray × Int × Int) × Int × Int) × Bool) => some r)))))
noncomputable abbrev EN20 (k : Nat) (tn : Int) (sp : List (Nat × Go.PG.Spec)) : Go.PG.Env := { T := T, specs := sp, codes := codesS, k := k, ins := [(58, T_api_Prop, 32)], ties := some ⟨31, 36, T_api_Prop, T_api_Val, 57, tn, [17, 26, 35, 27, 30, 21, 44]⟩, ospecs := [(57, ⟨(.slice T_api_Obj), T_api_Obj, slices_Clone_api_Obj_api_Obj k⟩), (44, ⟨(.slice T_api_Prop), T_api_Prop, slices_Clone_api_Prop_api_Prop k⟩)] }
theorem store_Set_eq (k : Nat) (x : (Ty.D (.pair (.slice T_api_Obj) (.pair T_api_Val (.pair .str T_api_Val))))) : evFn (EN20 k (x.2.1.2) [(25, ⟨(.slice T_api_Obj), .bool, store_May k⟩), (27, ⟨(.pair (.slice T_api_Obj) T_api_Val), .bool, store_Right k⟩), (56, ⟨(.pair T_api_Obj .str), (.pair (.int .i64) .bool), store_find k⟩)]) 6 Tryd.f20 [] (.pair (.slice T_api_Obj) (.pair T_api_Val (.pair .str T_api_Val))) (.pair (.slice T_api_Obj) .bool) x = store_Set k x := by kernel_rfl
theorem store_Set_spec (k : Nat) : SpecOk Tryd.prog GG 20 ⟨(.pair (.slice T_api_Obj) (.pair T_api_Val (.pair .str T_api_Val))), (.pair (.slice T_api_Obj) .bool), store_Set k⟩ :=
  fn_specE (E := fun x : (Ty.D (.pair (.slice T_api_Obj) (.pair T_api_Val (.pair .str T_api_Val)))) => EN20 k (x.2.1.2) [(25, ⟨(.slice T_api_Obj), .bool, store_May k⟩), (27, ⟨(.pair (.slice T_api_Obj) T_api_Val), .bool, store_Right k⟩), (56, ⟨(.pair T_api_Obj .str), (.pair (.int .i64) .bool), store_find k⟩)]) (fun x => envOk (E := EN20 k (x.2.1.2) [(25, ⟨(.slice T_api_Obj), .bool, store_May k⟩), (27, ⟨(.pair (.slice T_api_Obj) T_api_Val), .bool, store_Right k⟩), (56, ⟨(.pair T_api_Obj .str), (.pair (.int .i64) .bool), store_find k⟩)]) tabOk (.cons (store_May_spec k) f25_at f25_ok <| .cons (store_Right_spec k) f27_at f27_ok <| .cons (store_find_spec k) f56_at f56_ok <| .nil) codesSOk mixedOk ggKeep (hj := insOk) (ho := .cons (slices_Clone_api_Obj_api_Obj_ospec k) f57_at f57_ok <| .cons (slices_Clone_api_Prop_api_Prop_ospec k) f44_at f44_ok <| .nil)) f20_at (fun x => (store_Set_eq k x).symm)
noncomputable def store_New : (k : Nat) → (Ty.D (.pair (.slice T_api_Obj) T_api_Obj)) → Option (Ty.D (.pair (.slice T_api_Obj) (.pair T_api_Val .bool))) := fun (k : Nat) (x : (T_api_Obj.slice.pair T_api_Obj).D) => P.bind (store_copied k x.fst) fun (r : List (List (ByteArray × Int × Int) × Int × Int)) => P.bind (slices_Clone_api_Prop_api_Prop k x.snd.fst) fun (r_1 : List (ByteArray × Int × Int)) => P.cond (P.room (P.add (P.len r) (P.len [(r_1, x.snd.snd)])) 40) (P.bind (store_May k (P.app r [(r_1, x.snd.snd)])) fun (r_2 : Bool) => P.cond (P.not r_2) (some ([], ((0 : Int), (0 : Int)), false)) (some (P.app r [(r_1, x.snd.snd)], ((4 : Int), P.len x.fst), true))) none
noncomputable abbrev EN22 (k : Nat) (sp : List (Nat × Go.PG.Spec)) : Go.PG.Env := { T := T, specs := sp, codes := codes, k := k, calm := [41, 44], ospecs := [(41, ⟨(.slice T_api_Obj), T_api_Obj, store_copied k⟩)] }
theorem store_New_eq (k : Nat) (x : (Ty.D (.pair (.slice T_api_Obj) T_api_Obj))) : evFn (EN22 k [(25, ⟨(.slice T_api_Obj), .bool, store_May k⟩), (44, ⟨(.slice T_api_Prop), (.slice T_api_Prop), slices_Clone_api_Prop_api_Prop k⟩)]) 6 Tryd.f22 [] (.pair (.slice T_api_Obj) T_api_Obj) (.pair (.slice T_api_Obj) (.pair T_api_Val .bool)) x = store_New k x := by kernel_rfl
theorem store_New_spec (k : Nat) : SpecOk Tryd.prog GG 22 ⟨(.pair (.slice T_api_Obj) T_api_Obj), (.pair (.slice T_api_Obj) (.pair T_api_Val .bool)), store_New k⟩ :=
  fn_spec (envOk (E := EN22 k [(25, ⟨(.slice T_api_Obj), .bool, store_May k⟩), (44, ⟨(.slice T_api_Prop), (.slice T_api_Prop), slices_Clone_api_Prop_api_Prop k⟩)]) tabOk (.cons (store_May_spec k) f25_at f25_ok <| .cons (slices_Clone_api_Prop_api_Prop_spec k) f44_at f44_ok <| .nil) codesOk mixedOk ggKeep (ho := .cons (store_copied_ospec k) f41_at f41_ok <| .nil)) f22_at (fun x => (store_New_eq k x).symm)
noncomputable def store_Text : (k : Nat) → (Ty.D T_api_Val) → Option (Ty.D .str) := fun (k : Nat) (x : T_api_Val.D) => P.cond (P.ieq x.fst ((0 : Int))) (some (ByteArray.mk #[110, 117, 108, 108])) (P.cond (P.ieq x.fst ((1 : Int))) (P.cond (P.not (P.ieq x.snd ((0 : Int)))) (some (ByteArray.mk #[116, 114, 117, 101])) (some (ByteArray.mk #[102, 97, 108, 115, 101]))) (P.cond (P.ieq x.fst ((2 : Int))) (P.bind (strconv_Itoa k x.snd) fun (r : ByteArray) => some r) (P.cond (P.ieq x.fst ((3 : Int))) (some (ByteArray.mk #[102, 117, 110])) (P.cond (P.ieq x.fst ((4 : Int))) (some (ByteArray.mk #[111, 98, 106])) (some (ByteArray.mk #[63]))))))
theorem store_Text_eq (k : Nat) (x : (Ty.D T_api_Val)) : evFn (EN k [(46, ⟨(.int .i64), .str, strconv_Itoa k⟩)]) 6 Tryd.f29 [] T_api_Val .str x = store_Text k x := by kernel_rfl
theorem store_Text_spec (k : Nat) : SpecOk Tryd.prog GG 29 ⟨T_api_Val, .str, store_Text k⟩ :=
  fn_spec (envOk (E := EN k [(46, ⟨(.int .i64), .str, strconv_Itoa k⟩)]) tabOk (.cons (strconv_Itoa_spec k) f46_at f46_ok <| .nil) codesOk mixedOk ggKeep) f29_at (fun x => (store_Text_eq k x).symm)
noncomputable def law19_two : (k : Nat) → (Ty.D .unit) → Option (Ty.D (.slice T_api_Obj)) := fun (k : Nat) (x : Ty.unit.D) => some [([((ByteArray.mk #[112]), (2 : Int), (1 : Int))], (0 : Int), (0 : Int)), ([], (4 : Int), (0 : Int))]
noncomputable abbrev EN36 (k : Nat) (sp : List (Nat × Go.PG.Spec)) : Go.PG.Env := { T := T, specs := sp, codes := codes, k := k, calm := [0, 1] }
theorem law19_two_eq (k : Nat) (x : (Ty.D .unit)) : evFn (EN36 k []) 6 Tryd.f36 [] .unit (.slice T_api_Obj) x = law19_two k x := by kernel_rfl
theorem law19_two_spec (k : Nat) : SpecOk Tryd.prog GG 36 ⟨.unit, (.slice T_api_Obj), law19_two k⟩ :=
  fn_spec (envOk (E := EN36 k []) tabOk (.nil) codesOk mixedOk ggKeep) f36_at (fun x => (law19_two_eq k x).symm)
noncomputable def law19_obj : (k : Nat) → (Ty.D (.int .i64)) → Option (Ty.D T_api_Val) := fun (k : Nat) (x : (Ty.int IntKind.i64).D) => some ((4 : Int), x)
theorem law19_obj_eq (k : Nat) (x : (Ty.D (.int .i64))) : evFn (EN k []) 6 Tryd.f37 [] (.int .i64) T_api_Val x = law19_obj k x := by kernel_rfl
theorem law19_obj_spec (k : Nat) : SpecOk Tryd.prog GG 37 ⟨(.int .i64), T_api_Val, law19_obj k⟩ :=
  fn_spec (envOk (E := EN k []) tabOk (.nil) codesOk mixedOk ggKeep) f37_at (fun x => (law19_obj_eq k x).symm)
noncomputable def law19_num : (k : Nat) → (Ty.D (.int .i64)) → Option (Ty.D T_api_Val) := fun (k : Nat) (x : (Ty.int IntKind.i64).D) => some ((2 : Int), x)
theorem law19_num_eq (k : Nat) (x : (Ty.D (.int .i64))) : evFn (EN k []) 6 Tryd.f38 [] (.int .i64) T_api_Val x = law19_num k x := by kernel_rfl
theorem law19_num_spec (k : Nat) : SpecOk Tryd.prog GG 38 ⟨(.int .i64), T_api_Val, law19_num k⟩ :=
  fn_spec (envOk (E := EN k []) tabOk (.nil) codesOk mixedOk ggKeep) f38_at (fun x => (law19_num_eq k x).symm)
noncomputable def law19_fixed : (k : Nat) → (Ty.D .unit) → Option (Ty.D .bool) := fun (k : Nat) (x : Ty.unit.D) => P.bind (law19_two k PUnit.unit) fun (r : List (List (ByteArray × Int × Int) × Int × Int)) => P.bind (law19_obj k ((1 : Int))) fun (r_1 : Int × Int) => P.bind (store_Get k (r, r_1, (ByteArray.mk #[112]))) fun (r : (Int × Int) × Bool) => P.bind (law19_two k PUnit.unit) fun (r_2 : List (List (ByteArray × Int × Int) × Int × Int)) => P.bind (law19_obj k ((1 : Int))) fun (r_3 : Int × Int) => P.bind (law19_num k ((2 : Int))) fun (r_4 : Int × Int) => P.bind (store_Set k (r_2, r_3, (ByteArray.mk #[112]), r_4)) fun (r_5 : List (List (ByteArray × Int × Int) × Int × Int) × Bool) => P.bind (law19_obj k ((1 : Int))) fun (r_6 : Int × Int) => P.bind (store_Get k (r_5.fst, r_6, (ByteArray.mk #[112]))) fun (r_7 : (Int × Int) × Bool) => P.bind (law19_obj k ((0 : Int))) fun (r_8 : Int × Int) => P.bind (store_Get k (r_5.fst, r_8, (ByteArray.mk #[112]))) fun (r_9 : (Int × Int) × Bool) => P.bind (law19_two k PUnit.unit) fun (r_10 : List (List (ByteArray × Int × Int) × Int × Int)) => P.bind (law19_obj k ((1 : Int))) fun (r_11 : Int × Int) => P.bind (store_New k (r_10, [], r_11)) fun (r_12 : List (List (ByteArray × Int × Int) × Int × Int) × (Int × Int) × Bool) => P.bind (law19_two k PUnit.unit) fun (r_13 : List (List (ByteArray × Int × Int) × Int × Int)) => P.bind (law19_obj k ((2 : Int))) fun (r_14 : Int × Int) => P.bind (store_New k (r_13, [], r_14)) fun (r_15 : List (List (ByteArray × Int × Int) × Int × Int) × (Int × Int) × Bool) => P.bind (law19_num k ((1 : Int))) fun (r_16 : Int × Int) => P.cond (P.and (P.ieq r.fst.fst r_16.fst) (P.ieq r.fst.snd r_16.snd)) (P.cond r.snd (P.cond r_5.snd (P.bind (law19_num k ((2 : Int))) fun (r : Int × Int) => P.cond (P.and (P.ieq r_7.fst.fst r.fst) (P.ieq r_7.fst.snd r.snd)) (P.bind (law19_num k ((1 : Int))) fun (r : Int × Int) => P.cond (P.and (P.ieq r_9.fst.fst r.fst) (P.ieq r_9.fst.snd r.snd)) (P.bind (law19_obj k ((2 : Int))) fun (r : Int × Int) => P.cond (P.and (P.ieq r_12.snd.fst.fst r.fst) (P.ieq r_12.snd.fst.snd r.snd)) (P.cond r_12.snd.snd (P.cond (P.not r_15.snd.snd) (P.bind (law19_two k PUnit.unit) fun (r : List (List (ByteArray × Int × Int) × Int × Int)) => P.bind (store_May k r) fun (r : Bool) => P.cond r (P.bind (law19_two k PUnit.unit) fun (r : List (List (ByteArray × Int × Int) × Int × Int)) => P.bind (law19_obj k ((1 : Int))) fun (r_17 : Int × Int) => P.bind (store_Right k (r, r_17)) fun (r : Bool) => P.cond r (P.bind (law19_num k ((-3 : Int))) fun (r : Int × Int) => P.bind (store_Text k r) fun (r : ByteArray) => P.cond (P.seq r (ByteArray.mk #[45, 51])) (P.bind (law19_obj k ((0 : Int))) fun (r : Int × Int) => P.bind (store_Text k r) fun (r : ByteArray) => some (P.seq r (ByteArray.mk #[111, 98, 106]))) (some false)) (some false)) (some false)) (some false)) (some false)) (some false)) (some false)) (some false)) (some false)) (some false)) (some false)
noncomputable abbrev EN17 (k : Nat) (sp : List (Nat × Go.PG.Spec)) : Go.PG.Env := { T := T, specs := sp, codes := codes, k := k, calm := [0, 1] }
theorem law19_fixed_eq (k : Nat) (x : (Ty.D .unit)) : evFn (EN17 k [(18, ⟨(.pair (.slice T_api_Obj) (.pair T_api_Val .str)), (.pair T_api_Val .bool), store_Get k⟩), (20, ⟨(.pair (.slice T_api_Obj) (.pair T_api_Val (.pair .str T_api_Val))), (.pair (.slice T_api_Obj) .bool), store_Set k⟩), (22, ⟨(.pair (.slice T_api_Obj) T_api_Obj), (.pair (.slice T_api_Obj) (.pair T_api_Val .bool)), store_New k⟩), (25, ⟨(.slice T_api_Obj), .bool, store_May k⟩), (27, ⟨(.pair (.slice T_api_Obj) T_api_Val), .bool, store_Right k⟩), (29, ⟨T_api_Val, .str, store_Text k⟩), (36, ⟨.unit, (.slice T_api_Obj), law19_two k⟩), (37, ⟨(.int .i64), T_api_Val, law19_obj k⟩), (38, ⟨(.int .i64), T_api_Val, law19_num k⟩)]) 6 Tryd.f17 [] .unit .bool x = law19_fixed k x := by kernel_rfl
theorem law19_fixed_spec (k : Nat) : SpecOk Tryd.prog GG 17 ⟨.unit, .bool, law19_fixed k⟩ :=
  fn_spec (envOk (E := EN17 k [(18, ⟨(.pair (.slice T_api_Obj) (.pair T_api_Val .str)), (.pair T_api_Val .bool), store_Get k⟩), (20, ⟨(.pair (.slice T_api_Obj) (.pair T_api_Val (.pair .str T_api_Val))), (.pair (.slice T_api_Obj) .bool), store_Set k⟩), (22, ⟨(.pair (.slice T_api_Obj) T_api_Obj), (.pair (.slice T_api_Obj) (.pair T_api_Val .bool)), store_New k⟩), (25, ⟨(.slice T_api_Obj), .bool, store_May k⟩), (27, ⟨(.pair (.slice T_api_Obj) T_api_Val), .bool, store_Right k⟩), (29, ⟨T_api_Val, .str, store_Text k⟩), (36, ⟨.unit, (.slice T_api_Obj), law19_two k⟩), (37, ⟨(.int .i64), T_api_Val, law19_obj k⟩), (38, ⟨(.int .i64), T_api_Val, law19_num k⟩)]) tabOk (.cons (store_Get_spec k) f18_at f18_ok <| .cons (store_Set_spec k) f20_at f20_ok <| .cons (store_New_spec k) f22_at f22_ok <| .cons (store_May_spec k) f25_at f25_ok <| .cons (store_Right_spec k) f27_at f27_ok <| .cons (store_Text_spec k) f29_at f29_ok <| .cons (law19_two_spec k) f36_at f36_ok <| .cons (law19_obj_spec k) f37_at f37_ok <| .cons (law19_num_spec k) f38_at f38_ok <| .nil) codesOk mixedOk ggKeep) f17_at (fun x => (law19_fixed_eq k x).symm)
noncomputable def ref19_Right : (k : Nat) → (Ty.D (.pair (.slice T_api_Obj) T_api_Val)) → Option (Ty.D .bool) := fun (k : Nat) (x : (T_api_Obj.slice.pair T_api_Val).D) => P.cond (P.ieq x.snd.fst ((0 : Int))) (some (P.ieq x.snd.snd ((0 : Int)))) (P.cond (P.ieq x.snd.fst ((1 : Int))) (P.cond (P.ieq x.snd.snd ((0 : Int))) (some true) (some (P.ieq x.snd.snd ((1 : Int))))) (P.cond (P.ieq x.snd.fst ((2 : Int))) (some true) (P.cond (P.ieq x.snd.fst ((3 : Int))) (some (P.ile ((0 : Int)) x.snd.snd)) (P.cond (P.ieq x.snd.fst ((4 : Int))) (P.cond (P.ile ((0 : Int)) x.snd.snd) (some (P.ilt x.snd.snd (P.len x.fst))) (some false)) (some false)))))
theorem ref19_Right_eq (k : Nat) (x : (Ty.D (.pair (.slice T_api_Obj) T_api_Val))) : evFn (EN k []) 6 Tryd.f28 [] (.pair (.slice T_api_Obj) T_api_Val) .bool x = ref19_Right k x := by kernel_rfl
theorem ref19_Right_spec (k : Nat) : SpecOk Tryd.prog GG 28 ⟨(.pair (.slice T_api_Obj) T_api_Val), .bool, ref19_Right k⟩ :=
  fn_spec (envOk (E := EN k []) tabOk (.nil) codesOk mixedOk ggKeep) f28_at (fun x => (ref19_Right_eq k x).symm)
noncomputable def ref19_May : (k : Nat) → (Ty.D (.slice T_api_Obj)) → Option (Ty.D .bool) := fun (k : Nat) (x : T_api_Obj.slice.D) => P.bind (P.iter k (fun (y : Int) => P.cond (P.ilt y (P.len x)) (P.cond (P.inb y (P.len x)) (P.bind (P.iter k (fun (y_1 : Int) => P.cond (P.ilt y_1 (P.len (P.get x y ([], (0 : Int), (0 : Int))).fst)) (P.cond (P.inb y_1 (P.len (P.get x y ([], (0 : Int), (0 : Int))).fst)) (P.bind (ref19_Right k (x, (P.get (P.get x y ([], (0 : Int), (0 : Int))).fst y_1 ((ByteArray.mk #[]), (0 : Int), (0 : Int))).snd)) fun (r : Bool) => P.cond (P.not r) (some (Sum.inr (Sum.inr (Sum.inr (Sum.inr false))))) (P.cond (P.ilt ((0 : Int)) y_1) (P.cond (P.inb (P.wrap IntKind.i64 (P.sub y_1 ((1 : Int)))) (P.len (P.get x y ([], (0 : Int), (0 : Int))).fst)) (P.cond (P.inb y_1 (P.len (P.get x y ([], (0 : Int), (0 : Int))).fst)) (P.cond (P.not (P.slt (P.get (P.get x y ([], (0 : Int), (0 : Int))).fst (P.wrap IntKind.i64 (P.sub y_1 ((1 : Int)))) ((ByteArray.mk #[]), (0 : Int), (0 : Int))).fst (P.get (P.get x y ([], (0 : Int), (0 : Int))).fst y_1 ((ByteArray.mk #[]), (0 : Int), (0 : Int))).fst)) (some (Sum.inr (Sum.inr (Sum.inr (Sum.inr false))))) (some (Sum.inl (P.wrap IntKind.i64 (P.add y_1 ((1 : Int))))))) none) none) (some (Sum.inl (P.wrap IntKind.i64 (P.add y_1 ((1 : Int)))))))) none) (some (Sum.inr (Sum.inl PUnit.unit)))) ((0 : Int))) (P.either (fun (z : PUnit) => P.cond (P.not (P.and (P.ieq (P.get x y ([], (0 : Int), (0 : Int))).snd.fst ((0 : Int))) (P.ieq (P.get x y ([], (0 : Int), (0 : Int))).snd.snd ((0 : Int))))) (P.cond (P.not (P.ieq (P.get x y ([], (0 : Int), (0 : Int))).snd.fst ((4 : Int)))) (some (Sum.inr (Sum.inr false))) (P.cond (P.ilt (P.get x y ([], (0 : Int), (0 : Int))).snd.snd ((0 : Int))) (some (Sum.inr (Sum.inr false))) (P.cond (P.ile y (P.get x y ([], (0 : Int), (0 : Int))).snd.snd) (some (Sum.inr (Sum.inr false))) (some (Sum.inl (P.wrap IntKind.i64 (P.add y ((1 : Int))))))))) (some (Sum.inl (P.wrap IntKind.i64 (P.add y ((1 : Int))))))) fun (r : Int ⊕ PUnit ⊕ Bool) => some r)) none) (some (Sum.inr (Sum.inl PUnit.unit)))) ((0 : Int))) (P.either (fun (z : PUnit) => some true) fun (r : Bool) => some r)
theorem ref19_May_eq (k : Nat) (x : (Ty.D (.slice T_api_Obj))) : evFn (EN k [(28, ⟨(.pair (.slice T_api_Obj) T_api_Val), .bool, ref19_Right k⟩)]) 6 Tryd.f26 [(2, ⟨[.var 3 (.d (.int .i64))], [], (some (0, []))⟩), (6, ⟨[.var 5 (.d (.int .i64))], [], (some (2, []))⟩)] (.slice T_api_Obj) .bool x = ref19_May k x := by kernel_rfl
theorem ref19_May_spec (k : Nat) : SpecOk Tryd.prog GG 26 ⟨(.slice T_api_Obj), .bool, ref19_May k⟩ :=
  fn_spec (envOk (E := EN k [(28, ⟨(.pair (.slice T_api_Obj) T_api_Val), .bool, ref19_Right k⟩)]) tabOk (.cons (ref19_Right_spec k) f28_at f28_ok <| .nil) codesOk mixedOk ggKeep) f26_at (fun x => (ref19_May_eq k x).symm)
noncomputable def ref19_Props : (k : Nat) → (Ty.D (.pair (.slice T_api_Prop) (.slice T_api_Prop))) → Option (Ty.D .bool) := fun (k : Nat) (x : (T_api_Prop.slice.pair T_api_Prop.slice).D) => P.cond (P.not (P.ieq (P.len x.fst) (P.len x.snd))) (some false) (P.bind (P.iter k (fun (y : Int) => P.cond (P.ilt y (P.len x.fst)) (P.cond (P.inb y (P.len x.fst)) (P.cond (P.inb y (P.len x.snd)) (P.cond (P.not (P.and (P.seq (P.get x.fst y ((ByteArray.mk #[]), (0 : Int), (0 : Int))).fst (P.get x.snd y ((ByteArray.mk #[]), (0 : Int), (0 : Int))).fst) (P.and (P.ieq (P.get x.fst y ((ByteArray.mk #[]), (0 : Int), (0 : Int))).snd.fst (P.get x.snd y ((ByteArray.mk #[]), (0 : Int), (0 : Int))).snd.fst) (P.ieq (P.get x.fst y ((ByteArray.mk #[]), (0 : Int), (0 : Int))).snd.snd (P.get x.snd y ((ByteArray.mk #[]), (0 : Int), (0 : Int))).snd.snd)))) (some (Sum.inr (Sum.inr false))) (some (Sum.inl (P.wrap IntKind.i64 (P.add y ((1 : Int))))))) none) none) (some (Sum.inr (Sum.inl PUnit.unit)))) ((0 : Int))) (P.either (fun (z : PUnit) => some true) fun (r : Bool) => some r))
theorem ref19_Props_eq (k : Nat) (x : (Ty.D (.pair (.slice T_api_Prop) (.slice T_api_Prop)))) : evFn (EN k []) 6 Tryd.f31 [(4, ⟨[.var 5 (.d (.int .i64))], [], (some (0, []))⟩)] (.pair (.slice T_api_Prop) (.slice T_api_Prop)) .bool x = ref19_Props k x := by kernel_rfl
theorem ref19_Props_spec (k : Nat) : SpecOk Tryd.prog GG 31 ⟨(.pair (.slice T_api_Prop) (.slice T_api_Prop)), .bool, ref19_Props k⟩ :=
  fn_spec (envOk (E := EN k []) tabOk (.nil) codesOk mixedOk ggKeep) f31_at (fun x => (ref19_Props_eq k x).symm)
noncomputable def ref19_Same : (k : Nat) → (Ty.D (.pair (.slice T_api_Obj) (.slice T_api_Obj))) → Option (Ty.D .bool) := fun (k : Nat) (x : (T_api_Obj.slice.pair T_api_Obj.slice).D) => P.cond (P.not (P.ieq (P.len x.fst) (P.len x.snd))) (some false) (P.bind (P.iter k (fun (y : Int) => P.cond (P.ilt y (P.len x.fst)) (P.cond (P.inb y (P.len x.fst)) (P.cond (P.inb y (P.len x.snd)) (P.cond (P.not (P.and (P.ieq (P.get x.fst y ([], (0 : Int), (0 : Int))).snd.fst (P.get x.snd y ([], (0 : Int), (0 : Int))).snd.fst) (P.ieq (P.get x.fst y ([], (0 : Int), (0 : Int))).snd.snd (P.get x.snd y ([], (0 : Int), (0 : Int))).snd.snd))) (some (Sum.inr (Sum.inr false))) (P.cond (P.inb y (P.len x.fst)) (P.cond (P.inb y (P.len x.snd)) (P.bind (ref19_Props k ((P.get x.fst y ([], (0 : Int), (0 : Int))).fst, (P.get x.snd y ([], (0 : Int), (0 : Int))).fst)) fun (r : Bool) => P.cond (P.not r) (some (Sum.inr (Sum.inr false))) (some (Sum.inl (P.wrap IntKind.i64 (P.add y ((1 : Int))))))) none) none)) none) none) (some (Sum.inr (Sum.inl PUnit.unit)))) ((0 : Int))) (P.either (fun (z : PUnit) => some true) fun (r : Bool) => some r))
theorem ref19_Same_eq (k : Nat) (x : (Ty.D (.pair (.slice T_api_Obj) (.slice T_api_Obj)))) : evFn (EN k [(31, ⟨(.pair (.slice T_api_Prop) (.slice T_api_Prop)), .bool, ref19_Props k⟩)]) 6 Tryd.f24 [(4, ⟨[.var 5 (.d (.int .i64))], [], (some (0, []))⟩)] (.pair (.slice T_api_Obj) (.slice T_api_Obj)) .bool x = ref19_Same k x := by kernel_rfl
theorem ref19_Same_spec (k : Nat) : SpecOk Tryd.prog GG 24 ⟨(.pair (.slice T_api_Obj) (.slice T_api_Obj)), .bool, ref19_Same k⟩ :=
  fn_spec (envOk (E := EN k [(31, ⟨(.pair (.slice T_api_Prop) (.slice T_api_Prop)), .bool, ref19_Props k⟩)]) tabOk (.cons (ref19_Props_spec k) f31_at f31_ok <| .nil) codesOk mixedOk ggKeep) f24_at (fun x => (ref19_Same_eq k x).symm)
noncomputable def law19_StoreTurns : (k : Nat) → (Ty.D (.pair (.slice T_api_Obj) (.pair T_proteanlaw19_Put T_api_Val))) → Option (Ty.D .bool) := fun (k : Nat) (x : (T_api_Obj.slice.pair (T_proteanlaw19_Put.pair T_api_Val)).D) => P.bind (law19_fixed k PUnit.unit) fun (r : Bool) => P.cond (P.not r) (P.bind (law19_fixed k PUnit.unit) fun (r : Bool) => some r) (P.bind (ref19_Small k x.fst) fun (r : Bool) => P.cond (P.not r) (P.bind (law19_fixed k PUnit.unit) fun (r : Bool) => some r) (P.bind (ref19_May k x.fst) fun (r : Bool) => P.cond (P.not r) (P.bind (law19_fixed k PUnit.unit) fun (r : Bool) => some r) (P.bind (ref19_Right k (x.fst, x.snd.snd)) fun (r : Bool) => P.cond (P.not r) (P.bind (law19_fixed k PUnit.unit) fun (r : Bool) => some r) (P.bind (store_Set k (x.fst, x.snd.fst.fst, x.snd.fst.snd.fst, x.snd.fst.snd.snd)) fun (r : List (List (ByteArray × Int × Int) × Int × Int) × Bool) => P.cond (P.not r.snd) (some true) (P.bind (store_Set k (r.fst, x.snd.fst.fst, x.snd.fst.snd.fst, x.snd.snd)) fun (r_1 : List (List (ByteArray × Int × Int) × Int × Int) × Bool) => P.bind (store_Set k (x.fst, x.snd.fst.fst, x.snd.fst.snd.fst, x.snd.snd)) fun (r_2 : List (List (ByteArray × Int × Int) × Int × Int) × Bool) => P.cond (P.sfit x.snd.fst.snd.fst (ByteArray.mk #[120])) (P.bind (store_Set k (r.fst, x.snd.fst.fst, P.scat x.snd.fst.snd.fst (ByteArray.mk #[120]), x.snd.snd)) fun (r : List (List (ByteArray × Int × Int) × Int × Int) × Bool) => P.cond (P.sfit x.snd.fst.snd.fst (ByteArray.mk #[120])) (P.bind (store_Set k (x.fst, x.snd.fst.fst, P.scat x.snd.fst.snd.fst (ByteArray.mk #[120]), x.snd.snd)) fun (r_3 : List (List (ByteArray × Int × Int) × Int × Int) × Bool) => P.bind (store_Set k (r_3.fst, x.snd.fst.fst, x.snd.fst.snd.fst, x.snd.fst.snd.snd)) fun (r_4 : List (List (ByteArray × Int × Int) × Int × Int) × Bool) => P.cond r_1.snd (P.cond r_2.snd (P.bind (ref19_Same k (r_1.fst, r_2.fst)) fun (r_5 : Bool) => P.cond r_5 (P.cond r.snd (P.cond r_4.snd (P.bind (ref19_Same k (r.fst, r_4.fst)) fun (r : Bool) => some r) (some false)) (some false)) (some false)) (some false)) (some false)) none) none)))))
theorem law19_StoreTurns_eq (k : Nat) (x : (Ty.D (.pair (.slice T_api_Obj) (.pair T_proteanlaw19_Put T_api_Val)))) : evFn (EN k [(16, ⟨(.slice T_api_Obj), .bool, ref19_Small k⟩), (17, ⟨.unit, .bool, law19_fixed k⟩), (20, ⟨(.pair (.slice T_api_Obj) (.pair T_api_Val (.pair .str T_api_Val))), (.pair (.slice T_api_Obj) .bool), store_Set k⟩), (24, ⟨(.pair (.slice T_api_Obj) (.slice T_api_Obj)), .bool, ref19_Same k⟩), (26, ⟨(.slice T_api_Obj), .bool, ref19_May k⟩), (28, ⟨(.pair (.slice T_api_Obj) T_api_Val), .bool, ref19_Right k⟩)]) 6 Tryd.f8 [] (.pair (.slice T_api_Obj) (.pair T_proteanlaw19_Put T_api_Val)) .bool x = law19_StoreTurns k x := by kernel_rfl
theorem law19_StoreTurns_spec (k : Nat) : SpecOk Tryd.prog GG 8 ⟨(.pair (.slice T_api_Obj) (.pair T_proteanlaw19_Put T_api_Val)), .bool, law19_StoreTurns k⟩ :=
  fn_spec (envOk (E := EN k [(16, ⟨(.slice T_api_Obj), .bool, ref19_Small k⟩), (17, ⟨.unit, .bool, law19_fixed k⟩), (20, ⟨(.pair (.slice T_api_Obj) (.pair T_api_Val (.pair .str T_api_Val))), (.pair (.slice T_api_Obj) .bool), store_Set k⟩), (24, ⟨(.pair (.slice T_api_Obj) (.slice T_api_Obj)), .bool, ref19_Same k⟩), (26, ⟨(.slice T_api_Obj), .bool, ref19_May k⟩), (28, ⟨(.pair (.slice T_api_Obj) T_api_Val), .bool, ref19_Right k⟩)]) tabOk (.cons (ref19_Small_spec k) f16_at f16_ok <| .cons (law19_fixed_spec k) f17_at f17_ok <| .cons (store_Set_spec k) f20_at f20_ok <| .cons (ref19_Same_spec k) f24_at f24_ok <| .cons (ref19_May_spec k) f26_at f26_ok <| .cons (ref19_Right_spec k) f28_at f28_ok <| .nil) codesOk mixedOk ggKeep) f8_at (fun x => (law19_StoreTurns_eq k x).symm)
end
section
namespace Go.PL
open Go.PG
theorem cond_eq {α : Type} (b : Bool) (x y : α) : P.cond b x y = if b = true then x else y := by cases b <;> rfl
theorem bind_some {α β : Type} (a : α) (f : α → Option β) : P.bind (some a) f = f a := rfl
theorem either_inl {α β γ : Type} (f : α → γ) (g : β → γ) (a : α) : P.either f g (.inl a) = f a := rfl
theorem either_inr {α β γ : Type} (f : α → γ) (g : β → γ) (b : β) : P.either f g (.inr b) = g b := rfl
section
variable {τ ρ : Type} {f : τ → Option (τ ⊕ ρ)}
theorem iter_succ (k : Nat) (x : τ) : P.iter (k + 1) f x = match f x with
    | none => none
    | some (.inl y) => P.iter k f y
    | some (.inr r) => some r := rfl
theorem iter_step {k : Nat} {x y : τ} (hk : 0 < k) (h : f x = some (.inl y)) : P.iter k f x = P.iter (k - 1) f y := by
  obtain ⟨k, rfl⟩ : ∃ m, k = m + 1 := ⟨k - 1, by omega⟩
  rw [iter_succ, h]; rfl
theorem iter_done {k : Nat} {x : τ} {r : ρ} (hk : 0 < k) (h : f x = some (.inr r)) : P.iter k f x = some r := by
  obtain ⟨k, rfl⟩ : ∃ m, k = m + 1 := ⟨k - 1, by omega⟩
  rw [iter_succ, h]
theorem iter_run (s : Nat → τ) (r : ρ) : ∀ (n i k : Nat), n < k → (∀ j, j < n → f (s (i + j)) = some (.inl (s (i + j + 1)))) → f (s (i + n)) = some (.inr r) → P.iter k f (s i) = some r := by
  intro n
  induction n with
  | zero => intro i k hk _ he; exact iter_done (by omega) (by simpa using he)
  | succ n ih =>
    intro i k hk hs he
    rw [iter_step (x := s i) (y := s (i + 1)) (by omega) (by simpa using hs 0 (by omega))]
    refine ih (i + 1) (k - 1) (by omega) (fun j hj => ?_) (by rw [show i + 1 + n = i + (n + 1) by omega]; exact he)
    have := hs (j + 1) (by omega)
    rw [show i + 1 + j = i + (j + 1) by omega]
    exact this
theorem iter_find {f : Int → Option (Int ⊕ ρ)} {n : Nat} {e : ρ} (g : Nat → Option ρ) (hs : ∀ i : Nat, i < n → f (i : Int) = some (match g i with
    | none => .inl ((i + 1 : Nat) : Int)
    | some r => .inr r)) (he : f (n : Int) = some (.inr e)) : ∀ (d i k : Nat), i + d = n → d < k → P.iter k f (i : Int) = some (((List.range' i d).findSome? g).getD e) := by
  intro d
  induction d with
  | zero =>
    intro i k hi hk
    obtain rfl : i = n := by omega
    exact iter_done (by omega) he
  | succ d ih =>
    intro i k hi hk
    have h := hs i (by omega)
    rw [List.range'_succ, List.findSome?_cons]
    cases q : g i with
    | none =>
      rw [q] at h
      simp only at h ⊢
      rw [iter_step (by omega) h]
      exact ih (i + 1) (k - 1) (by omega) (by omega)
    | some r =>
      rw [q] at h
      simp only at h
      rw [iter_done (by omega) h]
      rfl
theorem iter_find0 {f : Int → Option (Int ⊕ ρ)} {n : Nat} {e : ρ} (g : Nat → Option ρ) (k : Nat) (hs : ∀ i : Nat, i < n → f (i : Int) = some (match g i with
    | none => .inl ((i + 1 : Nat) : Int)
    | some r => .inr r)) (he : f (n : Int) = some (.inr e)) (hk : n < k) : P.iter k f 0 = some (((List.range n).findSome? g).getD e) := by
  have := iter_find g hs he n 0 k (by omega) hk
  rw [List.range_eq_range']
  exact this
theorem iter_all {f : Int → Option (Int ⊕ ρ)} {n : Nat} {e r : ρ} (p : Nat → Prop) [DecidablePred p] (k : Nat) (hs : ∀ i : Nat, i < n → f (i : Int) = some (if p i then .inl ((i + 1 : Nat) : Int) else .inr r)) (he : f (n : Int) = some (.inr e)) (hk : n < k) :
    P.iter k f 0 = some (if ∀ i, i < n → p i then e else r) := by
  rw [iter_find0 (n := n) (e := e) (fun i => if p i then none else some r) k (fun i hi => by rw [hs i hi]; by_cases h : p i <;> simp [h]) he hk]
  by_cases h : ∀ i, i < n → p i
  · rw [if_pos h]
    have : (List.range n).findSome? (fun i => if p i then none else some r) = none := by
      rw [List.findSome?_eq_none_iff]
      intro i hi
      simp [h i (List.mem_range.1 hi)]
    rw [this]; rfl
  · rw [if_neg h]
    have hh : ∃ i, i < n ∧ ¬ p i := by
      apply Classical.byContradiction
      intro q
      exact h fun i hi => Classical.byContradiction fun z => q ⟨i, hi, z⟩
    obtain ⟨i, hi, hp⟩ := hh
    have : ∃ y, (List.range n).findSome? (fun i => if p i then none else some r) = some y := by
      rw [← Option.isSome_iff_exists, List.findSome?_isSome_iff]
      exact ⟨i, List.mem_range.2 hi, by simp [hp]⟩
    obtain ⟨y, hy⟩ := this
    rw [hy]
    obtain ⟨j, _, hj⟩ := List.exists_of_findSome?_eq_some hy
    by_cases q : p j
    · simp [q] at hj
    · simp [q] at hj; simp [hj]
end
theorem ieq_iff {x y : Int} : P.ieq x y = true ↔ x = y := by simp [P.ieq]
theorem ilt_iff {x y : Int} : P.ilt x y = true ↔ x < y := by simp [P.ilt]
theorem ile_iff {x y : Int} : P.ile x y = true ↔ x ≤ y := by simp [P.ile]
theorem inb_iff {i n : Int} : P.inb i n = true ↔ 0 ≤ i ∧ i < n := by simp [P.inb]
theorem wrap_i64 {x : Int} (h0 : -9223372036854775808 ≤ x) (h1 : x < 9223372036854775808) : P.wrap .i64 x = x := by
  show IntKind.i64.wrap x = x
  simp only [IntKind.wrap, IntKind.bits, IntKind.signed]
  simp
  omega
theorem wrap_nat {n : Nat} (h : n < 9223372036854775808) : P.wrap .i64 (n : Int) = n := wrap_i64 (by omega) (by omega)
theorem wrap_succ {n : Nat} (h : n + 1 < 9223372036854775808) : P.wrap .i64 (P.add (n : Int) 1) = ((n + 1 : Nat) : Int) := by
  rw [wrap_i64 (by simp [P.add]; omega) (by simp [P.add]; omega)]; simp [P.add]
theorem wrap_pred {n : Nat} (h0 : 0 < n) (h : n < 9223372036854775808) : P.wrap .i64 (P.sub (n : Int) 1) = ((n - 1 : Nat) : Int) := by
  rw [wrap_i64 (by simp [P.sub]; omega) (by simp [P.sub]; omega)]; simp [P.sub]; omega
theorem not_iff {b : Bool} : P.not b = true ↔ ¬ b = true := by cases b <;> simp [P.not]
theorem and_iff {a b : Bool} : P.and a b = true ↔ a = true ∧ b = true := by simp [P.and]
theorem room_iff {n : Int} {b : Nat} : P.room n b = true ↔ n.toNat * b ≤ 140737488355328 := by simp [P.room]
theorem room_nat {a b n : Nat} : P.room (P.add (a : Int) (b : Int)) n = true ↔ (a + b) * n ≤ 140737488355328 := by
  rw [room_iff]
  have : (P.add (a : Int) (b : Int)).toNat = a + b := by simp [P.add]; omega
  rw [this]
theorem get_nat {α : Type} (l : List α) (i : Nat) (d : α) : P.get l (i : Int) d = l.getD i d := by simp [P.get]
theorem len_eq {α : Type} (l : List α) : P.len l = (l.length : Int) := rfl
def ltS (a b : ByteArray) : Prop := a.data.toList < b.data.toList
instance (a b : ByteArray) : Decidable (ltS a b) := inferInstanceAs (Decidable (a.data.toList < b.data.toList))
theorem ba_ext {a b : ByteArray} (h : a.data.toList = b.data.toList) : a = b := by
  cases a; cases b; simp at h; simp [h]
theorem bytesLess_eq : ∀ (x y : List UInt8), Op.bytesLess x y = decide (x < y)
  | [], [] => by simp [Op.bytesLess]
  | _ :: _, [] => by simp [Op.bytesLess]
  | [], _ :: _ => by simp [Op.bytesLess]
  | a :: x, b :: y => by
    rw [Op.bytesLess, bytesLess_eq x y]
    simp only [List.cons_lt_cons_iff]
    by_cases h1 : a < b <;> by_cases h2 : a = b <;> by_cases h3 : x < y <;> simp [h1, h2, h3]
theorem slt_iff {a b : ByteArray} : P.slt a b = true ↔ ltS a b := by
  unfold P.slt ltS
  rw [bytesLess_eq, ByteArray.toList_eq, ByteArray.toList_eq]
  simp
theorem seq_iff {a b : ByteArray} : P.seq a b = true ↔ a = b := by
  unfold P.seq
  simp only [beq_iff_eq]
  exact ⟨ba_ext, fun h => by rw [h]⟩
theorem ltS_irrefl (a : ByteArray) : ¬ ltS a a := List.lt_irrefl _
theorem ltS_trans {a b c : ByteArray} (h1 : ltS a b) (h2 : ltS b c) : ltS a c := List.lt_trans h1 h2
theorem ltS_asymm {a b : ByteArray} (h1 : ltS a b) : ¬ ltS b a := List.lt_asymm h1
theorem ltS_tri (a b : ByteArray) : ltS a b ∨ a = b ∨ ltS b a := by
  by_cases h1 : ltS a b
  · exact .inl h1
  · by_cases h2 : ltS b a
    · exact .inr (.inr h2)
    · exact .inr (.inl (ba_ext (List.le_antisymm (List.not_lt.1 h2) (List.not_lt.1 h1))))
theorem cmp_spec : ∀ (x y : List UInt8), (Lib.compareBytes x y < 0 ↔ x < y) ∧ (Lib.compareBytes x y = 0 ↔ x = y) ∧ -1 ≤ Lib.compareBytes x y ∧ Lib.compareBytes x y ≤ 1
  | [], [] => by simp [Lib.compareBytes]
  | [], _ :: _ => by simp [Lib.compareBytes]
  | _ :: _, [] => by simp [Lib.compareBytes]
  | a :: x, b :: y => by
    have ih := cmp_spec x y
    simp only [Lib.compareBytes, List.cons_lt_cons_iff, List.cons.injEq]
    by_cases h1 : a < b
    · have : a ≠ b := fun h => by subst h; exact absurd h1 (by simp)
      simp [h1, this]
    · by_cases h2 : b < a
      · have : a ≠ b := fun h => by subst h; exact absurd h2 (by simp)
        simp [h1, h2, this]
      · have : a = b := UInt8.le_antisymm (UInt8.not_lt.1 h2) (UInt8.not_lt.1 h1)
        subst this
        simp only [h1, if_false, true_and, false_or]
        exact ih
def cmpS (a b : ByteArray) : Int := Lib.compareBytes a.data.toList b.data.toList
theorem cmpS_lt {a b : ByteArray} : cmpS a b < 0 ↔ ltS a b := (cmp_spec _ _).1
theorem cmpS_eq {a b : ByteArray} : cmpS a b = 0 ↔ a = b := (cmp_spec _ _).2.1.trans ⟨ba_ext, fun h => by rw [h]⟩
end Go.PL
end
section
open Go Go.PG Go.PL
set_option linter.unusedVariables false
namespace Go.PL
abbrev Val := Int × Int
abbrev Prp := ByteArray × Val
abbrev Ob := List Prp × Val
def Right (n : Nat) (v : Val) : Prop := (v.1 = 0 ∧ v.2 = 0) ∨ (v.1 = 1 ∧ (v.2 = 0 ∨ v.2 = 1)) ∨ v.1 = 2 ∨ (v.1 = 3 ∧ 0 ≤ v.2) ∨ (v.1 = 4 ∧ 0 ≤ v.2 ∧ v.2 < n)
instance (n : Nat) (v : Val) : Decidable (Right n v) := by unfold Right; exact inferInstance
theorem ref_right (k : Nat) (s : List Ob) (v : Val) : ref19_Right k (s, v) = some (decide (Right s.length v)) := by
  obtain ⟨a, b⟩ := v
  unfold ref19_Right
  dsimp only
  simp only [cond_eq, ieq_iff, ile_iff, ilt_iff, len_eq]
  repeat' split
  all_goals
    rw [Option.some.injEq, Bool.eq_iff_iff, decide_eq_true_eq]
    simp only [Right, ieq_iff, ile_iff, ilt_iff, true_iff, Bool.false_eq_true, false_iff]
    omega
theorem st_right (k : Nat) (s : List Ob) (v : Val) : store_Right k (s, v) = some (decide (Right s.length v)) := by
  obtain ⟨a, b⟩ := v
  unfold store_Right
  dsimp only
  simp only [cond_eq, ieq_iff, ile_iff, ilt_iff, len_eq]
  repeat' split
  all_goals
    rw [Option.some.injEq, Bool.eq_iff_iff, decide_eq_true_eq]
    simp only [Right, ieq_iff, ile_iff, ilt_iff, true_iff, Bool.false_eq_true, false_iff]
    omega
abbrev dP : Prp := (⟨#[]⟩, 0, 0)
abbrev dO : Ob := ([], 0, 0)
def PropOk (n : Nat) (l : List Prp) (i : Nat) : Prop := Right n (l.getD i dP).2 ∧ (0 < i → ltS (l.getD (i - 1) dP).1 (l.getD i dP).1)
instance (n : Nat) (l : List Prp) (i : Nat) : Decidable (PropOk n l i) := by unfold PropOk; exact inferInstance
def ProtoOk (i : Nat) (v : Val) : Prop := (v.1 = 0 ∧ v.2 = 0) ∨ (v.1 = 4 ∧ 0 ≤ v.2 ∧ v.2 < i)
instance (i : Nat) (v : Val) : Decidable (ProtoOk i v) := by unfold ProtoOk; exact inferInstance
def ObOk (n i : Nat) (o : Ob) : Prop := (∀ k, k < o.1.length → PropOk n o.1 k) ∧ ProtoOk i o.2
instance (n i : Nat) (o : Ob) : Decidable (ObOk n i o) := by unfold ObOk; exact inferInstance
def MayS (s : List Ob) : Prop := ∀ i, i < s.length → ObOk s.length i (s.getD i dO)
instance (s : List Ob) : Decidable (MayS s) := by unfold MayS; exact inferInstance
def Fits (s : List Ob) : Prop := s.length < 9223372036854775808 ∧ ∀ i, i < s.length → (s.getD i dO).1.length < 9223372036854775808
def K : Nat := 18446744073709551616
theorem ref_may (s : List Ob) (hf : Fits s) : ref19_May K s = some (decide (MayS s)) := by
  unfold ref19_May
  rw [iter_all (n := s.length) (e := .inl ()) (r := .inr false) (fun i => ObOk s.length i (s.getD i dO)) K ?_ ?_ (by have := hf.1; unfold K; omega)]
  · rw [bind_some]
    have : (∀ i, i < s.length → ObOk s.length i (s.getD i dO)) ↔ MayS s := Iff.rfl
    by_cases h : MayS s
    · rw [if_pos (this.2 h)]; simp [h, either_inl]
    · rw [if_neg (fun q => h (this.1 q))]; simp [h, either_inr]
  · intro i hi
    have hl := hf.2 i hi
    simp only [cond_eq, ilt_iff, inb_iff, len_eq, get_nat]
    rw [if_pos (by omega), if_pos (by omega)]
    generalize ho : s.getD i dO = o at *
    rw [iter_all (n := o.1.length) (e := .inl ()) (r := .inr (.inr (.inr false))) (fun j => PropOk s.length o.1 j) K ?_ ?_ (by unfold K; omega)]
    · rw [bind_some]
      have e1 : (∀ j, j < o.1.length → PropOk s.length o.1 j) ∧ ProtoOk i o.2 ↔ ObOk s.length i o := Iff.rfl
      by_cases h : ∀ j, j < o.1.length → PropOk s.length o.1 j
      · rw [if_pos h, either_inl]
        simp only [not_iff, and_iff, ieq_iff, ile_iff]
        rw [wrap_succ (by have := hf.1; omega)]
        have e2 : ObOk s.length i o ↔ ProtoOk i o.2 := ⟨fun q => q.2, fun q => ⟨h, q⟩⟩
        simp only [e2, ProtoOk]
        repeat' split
        all_goals first
          | rfl
          | (exfalso; omega)
      · rw [if_neg h, either_inr]
        have : ¬ ObOk s.length i o := fun q => h q.1
        simp [this]
    · intro j hj
      rw [if_pos (by omega), if_pos ⟨by omega, by omega⟩, ref_right, bind_some]
      simp only [not_iff, decide_eq_true_eq, get_nat]
      rw [wrap_succ (by omega)]
      by_cases h : Right s.length (o.1.getD j dP).2
      · rw [if_neg (not_not_intro h)]
        by_cases h0 : 0 < j
        · rw [if_pos (by omega), wrap_pred h0 (by omega), if_pos ⟨by omega, by omega⟩, if_pos ⟨by omega, by omega⟩]
          simp only [get_nat, slt_iff]
          by_cases h2 : ltS (o.1.getD (j - 1) dP).1 (o.1.getD j dP).1
          · rw [if_neg (not_not_intro h2), if_pos (show PropOk s.length o.1 j from ⟨h, fun _ => h2⟩)]
          · rw [if_pos h2, if_neg (show ¬ PropOk s.length o.1 j from fun q => h2 (q.2 h0))]
        · rw [if_neg (by omega), if_pos (show PropOk s.length o.1 j from ⟨h, fun q => absurd q h0⟩)]
      · rw [if_pos h, if_neg (show ¬ PropOk s.length o.1 j from fun q => h q.1)]
    · rw [if_neg (by omega)]
  · simp only [cond_eq, ilt_iff, len_eq]
    rw [if_neg (by omega)]
theorem st_may (s : List Ob) (hf : Fits s) : store_May K s = some (decide (MayS s)) := by
  unfold store_May
  rw [iter_all (n := s.length) (e := .inl ()) (r := .inr false) (fun i => ObOk s.length i (s.getD i dO)) K ?_ ?_ (by have := hf.1; unfold K; omega)]
  · rw [bind_some]
    have : (∀ i, i < s.length → ObOk s.length i (s.getD i dO)) ↔ MayS s := Iff.rfl
    by_cases h : MayS s
    · rw [if_pos (this.2 h)]; simp [h, either_inl]
    · rw [if_neg (fun q => h (this.1 q))]; simp [h, either_inr]
  · intro i hi
    have hl := hf.2 i hi
    simp only [cond_eq, ilt_iff, inb_iff, len_eq, get_nat]
    rw [if_pos (by omega), if_pos (by omega)]
    generalize ho : s.getD i dO = o at *
    rw [iter_all (n := o.1.length) (e := .inl ()) (r := .inr (.inr (.inr false))) (fun j => PropOk s.length o.1 j) K ?_ ?_ (by unfold K; omega)]
    · rw [bind_some]
      have e1 : (∀ j, j < o.1.length → PropOk s.length o.1 j) ∧ ProtoOk i o.2 ↔ ObOk s.length i o := Iff.rfl
      by_cases h : ∀ j, j < o.1.length → PropOk s.length o.1 j
      · rw [if_pos h, either_inl]
        simp only [not_iff, and_iff, ieq_iff, ile_iff]
        rw [wrap_succ (by have := hf.1; omega)]
        have e2 : ObOk s.length i o ↔ ProtoOk i o.2 := ⟨fun q => q.2, fun q => ⟨h, q⟩⟩
        simp only [e2, ProtoOk]
        repeat' split
        all_goals first
          | rfl
          | (exfalso; omega)
      · rw [if_neg h, either_inr]
        have : ¬ ObOk s.length i o := fun q => h q.1
        simp [this]
    · intro j hj
      rw [if_pos (by omega), if_pos ⟨by omega, by omega⟩, st_right, bind_some]
      simp only [not_iff, decide_eq_true_eq, get_nat]
      rw [wrap_succ (by omega)]
      by_cases h : Right s.length (o.1.getD j dP).2
      · rw [if_neg (not_not_intro h)]
        by_cases h0 : 0 < j
        · rw [if_pos (by omega), wrap_pred h0 (by omega), if_pos ⟨by omega, by omega⟩]
          simp only [get_nat, slt_iff]
          by_cases h2 : ltS (o.1.getD (j - 1) dP).1 (o.1.getD j dP).1
          · rw [if_neg (not_not_intro h2), if_pos (show PropOk s.length o.1 j from ⟨h, fun _ => h2⟩)]
          · rw [if_pos h2, if_neg (show ¬ PropOk s.length o.1 j from fun q => h2 (q.2 h0))]
        · rw [if_neg (by omega), if_pos (show PropOk s.length o.1 j from ⟨h, fun q => absurd q h0⟩)]
      · rw [if_pos h, if_neg (show ¬ PropOk s.length o.1 j from fun q => h q.1)]
    · rw [if_neg (by omega)]
  · simp only [cond_eq, ilt_iff, len_eq]
    rw [if_neg (by omega)]
def ownM (l : List Prp) (name : ByteArray) : Option Val := (List.range l.length).findSome? fun i => if (l.getD i dP).1 = name then some (l.getD i dP).2 else none
theorem ref_small (s : List Ob) (hf : Fits s) : ref19_Small K s = some (decide ((∀ i, i < s.length → (s.getD i dO).1.length ≤ 60) ∧ s.length ≤ 100)) := by
  unfold ref19_Small
  rw [iter_all (n := s.length) (e := .inl ()) (r := .inr false) (fun i => (s.getD i dO).1.length ≤ 60) K ?_ ?_ (by have := hf.1; unfold K; omega)]
  · rw [bind_some]
    by_cases h : ∀ i, i < s.length → (s.getD i dO).1.length ≤ 60
    · rw [if_pos h, either_inl, Option.some.injEq, Bool.eq_iff_iff, decide_eq_true_eq, ile_iff, len_eq]
      exact ⟨fun q => ⟨h, by omega⟩, fun q => by have := q.2; omega⟩
    · rw [if_neg h, either_inr, Option.some.injEq, Bool.eq_iff_iff, decide_eq_true_eq]
      exact ⟨fun q => (by cases q), fun q => absurd q.1 h⟩
  · intro i hi
    have := hf.2 i hi
    have h1 := hf.1
    dsimp only [dO] at *
    simp only [cond_eq, ilt_iff, inb_iff, len_eq, get_nat]
    rw [if_pos (by omega), if_pos ⟨by omega, by omega⟩, wrap_succ (by omega)]
    by_cases h : (s.getD i ([], 0, 0)).1.length ≤ 60
    · rw [if_neg (by omega), if_pos h]
    · rw [if_pos (by omega), if_neg h]
  · simp only [cond_eq, ilt_iff, len_eq]
    rw [if_neg (by omega)]
def Srt (l : List Prp) : Prop := ∀ i, 0 < i → i < l.length → ltS (l.getD (i - 1) dP).1 (l.getD i dP).1
theorem Srt.lt {l : List Prp} (h : Srt l) : ∀ (j i : Nat), i < j → j < l.length → ltS (l.getD i dP).1 (l.getD j dP).1 := by
  intro j
  induction j with
  | zero => intro i hi; omega
  | succ j ih =>
    intro i hi hj
    have h1 := h (j + 1) (by omega) hj
    rw [Nat.add_sub_cancel] at h1
    rcases Nat.lt_or_ge i j with q | q
    · exact ltS_trans (ih i q (by omega)) h1
    · have : i = j := by omega
      subst this; exact h1
theorem find_loop (l : List Prp) (name : ByteArray) (hl : l.length < 9223372036854775808) (hs : Srt l) (f : Int × Int → Option ((Int × Int) ⊕ (Int ⊕ (Int × Bool))))
    (h1 : ∀ i j : Nat, i < j → j ≤ l.length → f ((i : Int), (j : Int)) = some (.inl (if ltS (l.getD ((i + j) / 2) dP).1 name then ((((i + j) / 2 + 1 : Nat) : Int), (j : Int)) else ((i : Int), (((i + j) / 2 : Nat) : Int)))))
    (h2 : ∀ i : Nat, f ((i : Int), (i : Int)) = some (.inr (.inl (i : Int)))) : ∀ (d i j k : Nat), j - i = d → i ≤ j → j ≤ l.length → d < k → (∀ t, t < i → ltS (l.getD t dP).1 name) → (∀ t, j ≤ t → t < l.length → ¬ ltS (l.getD t dP).1 name) →
    ∃ z : Nat, P.iter k f ((i : Int), (j : Int)) = some (.inl (z : Int)) ∧ z ≤ l.length ∧ (∀ t, t < z → ltS (l.getD t dP).1 name) ∧ (∀ t, z ≤ t → t < l.length → ¬ ltS (l.getD t dP).1 name) := by
  intro d
  induction d using Nat.strongRecOn with
  | ind d ih =>
    intro i j k hd hij hj hk lo hi
    by_cases h : i = j
    · subst h
      exact ⟨i, iter_done (by omega) (h2 i), hj, lo, hi⟩
    · have hf := h1 i j (by omega) hj
      have hm1 : i ≤ (i + j) / 2 := by omega
      have hm2 : (i + j) / 2 < j := by omega
      generalize (i + j) / 2 = m at *
      by_cases q : ltS (l.getD m dP).1 name
      · rw [if_pos q] at hf
        rw [iter_step (by omega) hf]
        refine ih (j - (m + 1)) (by omega) (m + 1) j (k - 1) rfl (by omega) hj (by omega) (fun t ht => ?_) hi
        rcases Nat.lt_or_ge t m with z | z
        · exact ltS_trans (hs.lt m t z (by omega)) q
        · have : t = m := by omega
          subst this; exact q
      · rw [if_neg q] at hf
        rw [iter_step (by omega) hf]
        refine ih (m - i) (by omega) i m (k - 1) rfl (by omega) (by omega) (by omega) lo (fun t ht htl => ?_)
        rcases Nat.lt_or_ge m t with z | z
        · exact fun w => q (ltS_trans (hs.lt t m z htl) w)
        · have : t = m := by omega
          subst this; exact q
theorem exists_z (l : List Prp) (name : ByteArray) (hs : Srt l) : ∃ z, z ≤ l.length ∧ (∀ t, t < z → ltS (l.getD t dP).1 name) ∧ (∀ t, z ≤ t → t < l.length → ¬ ltS (l.getD t dP).1 name) := by
  have : ∀ n, n ≤ l.length → ∃ z, z ≤ n ∧ (∀ t, t < z → ltS (l.getD t dP).1 name) ∧ (∀ t, z ≤ t → t < n → ¬ ltS (l.getD t dP).1 name) := by
    intro n
    induction n with
    | zero => intro _; exact ⟨0, Nat.le_refl _, fun t ht => by omega, fun t _ ht => by omega⟩
    | succ n ih =>
      intro hn
      obtain ⟨z, h1, h2, h3⟩ := ih (by omega)
      by_cases q : z = n
      · by_cases p : ltS (l.getD n dP).1 name
        · refine ⟨n + 1, Nat.le_refl _, fun t ht => ?_, fun t h4 h5 => by omega⟩
          rcases Nat.lt_or_ge t n with w | w
          · exact h2 t (by omega)
          · have : t = n := by omega
            subst this; exact p
        · refine ⟨n, by omega, fun t ht => h2 t (by omega), fun t h4 h5 => ?_⟩
          have : t = n := by omega
          subst this; exact p
      · refine ⟨z, by omega, h2, fun t h4 h5 => ?_⟩
        rcases Nat.lt_or_ge t n with w | w
        · exact h3 t h4 w
        · have : t = n := by omega
          subst this
          exact fun p => h3 z (Nat.le_refl _) (by omega) (ltS_trans (hs.lt t z (by omega) (by omega)) p)
  exact this l.length (Nat.le_refl _)
open Classical in
noncomputable def zOf (l : List Prp) (name : ByteArray) : Nat := if hs : Srt l then Classical.choose (exists_z l name hs) else 0
theorem zOf_spec {l : List Prp} {name : ByteArray} (hs : Srt l) : zOf l name ≤ l.length ∧ (∀ t, t < zOf l name → ltS (l.getD t dP).1 name) ∧ (∀ t, zOf l name ≤ t → t < l.length → ¬ ltS (l.getD t dP).1 name) := by
  unfold zOf
  rw [dif_pos hs]
  exact Classical.choose_spec (exists_z l name hs)
theorem find_loop0 (l : List Prp) (name : ByteArray) (hl : l.length < 9223372036854775808) (hs : Srt l) {f : Int × Int → Option ((Int × Int) ⊕ (Int ⊕ (Int × Bool)))}
    (h1 : ∀ i j : Nat, i < j → j ≤ l.length → f ((i : Int), (j : Int)) = some (.inl (if ltS (l.getD ((i + j) / 2) dP).1 name then ((((i + j) / 2 + 1 : Nat) : Int), (j : Int)) else ((i : Int), (((i + j) / 2 : Nat) : Int)))))
    (h2 : ∀ i : Nat, f ((i : Int), (i : Int)) = some (.inr (.inl (i : Int)))) : P.iter K f (0, P.len l) = some (.inl (zOf l name : Int)) := by
  obtain ⟨z, e, p1, p2, p3⟩ := find_loop l name hl hs f h1 h2 l.length 0 l.length K (by omega) (by omega) (Nat.le_refl _) (by unfold K; omega) (fun t ht => by omega) (fun t h1 h2 => by omega)
  obtain ⟨q1, q2, q3⟩ := zOf_spec (name := name) hs
  have : z = zOf l name := by
    rcases Nat.lt_trichotomy z (zOf l name) with h | h | h
    · exact absurd (q2 z h) (p3 z (Nat.le_refl _) (by omega))
    · exact h
    · exact absurd (p2 _ h) (q3 _ (Nat.le_refl _) (by omega))
  rw [← this]
  exact e
theorem mid_eq {i j : Nat} (hij : i < j) (hj : j < 9223372036854775808) : P.wrap .i64 (P.shrk .u64 (P.wrap .u64 (P.wrap .i64 (P.add (i : Int) (j : Int)))) 1) = (((i + j) / 2 : Nat) : Int) := by
  have e0 : P.add (i : Int) (j : Int) = ((i + j : Nat) : Int) := by simp [P.add]
  have e1 : P.wrap .u64 (P.wrap .i64 (P.add (i : Int) (j : Int))) = ((i + j : Nat) : Int) := by
    rw [e0]
    show IntKind.u64.wrap (IntKind.i64.wrap _) = _
    simp only [IntKind.wrap, IntKind.bits, IntKind.signed]
    simp
    omega
  have e2 : P.shrk .u64 (P.wrap .u64 (P.wrap .i64 (P.add (i : Int) (j : Int)))) 1 = (((i + j) / 2 : Nat) : Int) := by
    rw [e1]
    simp [P.shrk, IntKind.bits]
    rw [Int.fdiv_eq_ediv_of_nonneg _ (by omega)]
  rw [e2]
  exact wrap_nat (by omega)
theorem compare_eq (a b : ByteArray) : strings_Compare K (a, b) = some (cmpS a b) := rfl
theorem st_find (o : Ob) (name : ByteArray) (hl : o.1.length < 9223372036854775808) (hs : Srt o.1) :
    store_find K (o, name) = some ((zOf o.1 name : Int), decide (zOf o.1 name < o.1.length ∧ (o.1.getD (zOf o.1 name) dP).1 = name)) := by
  obtain ⟨q1, q2, q3⟩ := zOf_spec (name := name) hs
  unfold store_find
  dsimp only
  rw [find_loop0 o.1 name hl hs ?_ ?_]
  · rw [bind_some, either_inl]
    simp only [cond_eq, ilt_iff, inb_iff, len_eq, get_nat, compare_eq, bind_some]
    by_cases h : zOf o.1 name < o.1.length
    · rw [if_pos (by omega), if_pos ⟨by omega, by omega⟩, Option.some.injEq, Prod.mk.injEq]
      refine ⟨rfl, ?_⟩
      rw [Bool.eq_iff_iff, ieq_iff, cmpS_eq, decide_eq_true_eq]
      simp [h]
    · rw [if_neg (by omega)]
      simp [h]
  · intro i j hij hj
    simp only [cond_eq, ilt_iff, inb_iff, ile_iff, len_eq]
    rw [mid_eq hij (by omega), if_pos (by omega), if_pos (by omega), if_pos ⟨by omega, by omega⟩]
    simp only [get_nat, compare_eq, bind_some, cmpS_lt]
    rw [wrap_succ (by omega)]
    split <;> rfl
  · intro i
    simp only [cond_eq, ilt_iff]
    rw [if_neg (by omega)]
theorem MayS.srt {s : List Ob} (h : MayS s) {i : Nat} (hi : i < s.length) : Srt (s.getD i dO).1 := fun k h0 hk => ((h i hi).1 k hk).2 h0
theorem right4 {n : Nat} {v : Val} (h4 : v.1 = 4) (h : Right n v) : 0 ≤ v.2 ∧ v.2 < n := by
  unfold Right at h; omega
end Go.PL
end
section
open Go Go.PG Go.PL
set_option linter.unusedVariables false
set_option linter.unusedSimpArgs false
namespace Go.PL
noncomputable def zBk (l : List Prp) (nm : ByteArray) : Nat := if zOf l nm < l.length ∧ (l.getD (zOf l nm) dP).1 = nm then zOf l nm + 1 else zOf l nm
noncomputable def withM (l : List Prp) (nm : ByteArray) (w : Val) : List Prp := l.take (zOf l nm) ++ (nm, w) :: l.drop (zBk l nm)
theorem zBk_bd (l : List Prp) (nm : ByteArray) : zOf l nm ≤ zBk l nm ∧ zBk l nm ≤ zOf l nm + 1 := by
  unfold zBk; split <;> omega
theorem range_findSome {α β : Type} (d : α) (g : α → Option β) : ∀ l : List α, (List.range l.length).findSome? (fun i => g (l.getD i d)) = l.findSome? g
  | [] => rfl
  | a :: l => by
    rw [List.length_cons, List.range_succ_eq_map, List.findSome?_cons, List.findSome?_cons]
    have : (List.map Nat.succ (List.range l.length)).findSome? (fun i => g ((a :: l).getD i d)) = l.findSome? g := by
      rw [List.findSome?_map, ← range_findSome d g l]
      rfl
    rw [this]
    rfl
theorem own_find (l : List Prp) (nm : ByteArray) : ownM l nm = l.findSome? fun p => if p.1 = nm then some p.2 else none :=
  range_findSome dP (fun p : Prp => if p.1 = nm then some p.2 else none) l
theorem srt_iff {l : List Prp} : Srt l ↔ l.Pairwise fun p q => ltS p.1 q.1 := by
  rw [List.pairwise_iff_getElem]
  constructor
  · intro h i j hi hj hij
    have := h.lt j i hij hj
    simpa [List.getD_eq_getElem?_getD, hi, hj] using this
  · intro h i h0 hi
    have := h (i - 1) i (by omega) hi (by omega)
    have h1 : i - 1 < l.length := by omega
    simpa [List.getD_eq_getElem?_getD, hi, h1] using this
theorem getD_mem {α : Type} {l : List α} {i : Nat} (h : i < l.length) (d : α) : l.getD i d ∈ l := by
  rw [List.getD_eq_getElem?_getD, List.getElem?_eq_getElem h]; exact List.getElem_mem h
theorem mem_getD {α : Type} {l : List α} {a : α} (h : a ∈ l) (d : α) : ∃ i, i < l.length ∧ l.getD i d = a := by
  obtain ⟨i, hi, e⟩ := List.getElem_of_mem h
  exact ⟨i, hi, by rw [List.getD_eq_getElem?_getD, List.getElem?_eq_getElem hi]; exact e⟩
theorem props_iff {n : Nat} {l : List Prp} : (∀ k, k < l.length → PropOk n l k) ↔ (∀ p, p ∈ l → Right n p.2) ∧ Srt l := by
  constructor
  · intro h
    refine ⟨fun p hp => ?_, fun i h0 hi => (h i hi).2 h0⟩
    obtain ⟨i, hi, e⟩ := mem_getD hp dP
    rw [← e]
    exact (h i hi).1
  · rintro ⟨h1, h2⟩ k hk
    exact ⟨h1 _ (getD_mem hk dP), fun h0 => h2 k h0 hk⟩
theorem split_z (l : List Prp) (nm : ByteArray) : l = l.take (zOf l nm) ++ l.drop (zOf l nm) := (List.take_append_drop _ _).symm
theorem take_lt {l : List Prp} {nm : ByteArray} (hs : Srt l) : ∀ p, p ∈ l.take (zOf l nm) → ltS p.1 nm := by
  intro p hp
  obtain ⟨q1, q2, q3⟩ := zOf_spec (name := nm) hs
  obtain ⟨i, hi, e⟩ := mem_getD hp dP
  rw [List.length_take] at hi
  have := q2 i (by omega)
  rw [← e]
  simpa [List.getD_eq_getElem?_getD, List.getElem?_take, show i < zOf l nm by omega] using this
theorem drop_lt {l : List Prp} {nm : ByteArray} (hs : Srt l) : ∀ p, p ∈ l.drop (zBk l nm) → ltS nm p.1 := by
  intro p hp
  obtain ⟨q1, q2, q3⟩ := zOf_spec (name := nm) hs
  obtain ⟨i, hi, e⟩ := mem_getD hp dP
  rw [List.length_drop] at hi
  have e1 : (l.drop (zBk l nm)).getD i dP = l.getD (zBk l nm + i) dP := by simp [List.getD_eq_getElem?_getD, List.getElem?_drop]
  rw [← e, e1]
  by_cases h : zOf l nm < l.length ∧ (l.getD (zOf l nm) dP).1 = nm
  · have hb : zBk l nm = zOf l nm + 1 := by unfold zBk; rw [if_pos h]
    have := hs.lt (zBk l nm + i) (zOf l nm) (by omega) (by omega)
    rw [h.2] at this
    exact this
  · have hb : zBk l nm = zOf l nm := by unfold zBk; rw [if_neg h]
    have h3 := q3 (zBk l nm + i) (by omega) (by omega)
    rcases ltS_tri (l.getD (zBk l nm + i) dP).1 nm with z | z | z
    · exact absurd z h3
    · exfalso
      rcases Nat.eq_zero_or_pos i with w | w
      · subst w
        rw [hb, Nat.add_zero] at z
        exact h ⟨by omega, z⟩
      · have h4 := hs.lt (zBk l nm + i) (zOf l nm) (by omega) (by omega)
        rw [z] at h4
        exact q3 _ (Nat.le_refl _) (by omega) h4
    · exact z
theorem with_srt {l : List Prp} (nm : ByteArray) (w : Val) (hs : Srt l) : Srt (withM l nm w) := by
  have hp := srt_iff.1 hs
  rw [srt_iff]
  unfold withM
  rw [List.pairwise_append, List.pairwise_cons]
  refine ⟨hp.sublist (List.take_sublist _ _), ⟨fun q hq => drop_lt hs q hq, hp.sublist (List.drop_sublist _ _)⟩, fun p h1 q h2 => ?_⟩
  have h3 := take_lt hs p h1
  rcases List.mem_cons.1 h2 with rfl | h2
  · exact h3
  · exact ltS_trans h3 (drop_lt hs q h2)
theorem with_mem {l : List Prp} {nm : ByteArray} {w : Val} {p : Prp} (h : p ∈ withM l nm w) : p = (nm, w) ∨ p ∈ l := by
  unfold withM at h
  rcases List.mem_append.1 h with h | h
  · exact .inr (List.mem_of_mem_take h)
  · rcases List.mem_cons.1 h with h | h
    · exact .inl h
    · exact .inr (List.mem_of_mem_drop h)
theorem with_len (l : List Prp) (nm : ByteArray) (w : Val) : (withM l nm w).length ≤ l.length + 1 := by
  obtain ⟨b1, b2⟩ := zBk_bd l nm
  unfold withM
  simp
  omega
theorem own_with {l : List Prp} (nm nm' : ByteArray) (w : Val) (hs : Srt l) : ownM (withM l nm w) nm' = if nm' = nm then some w else ownM l nm' := by
  rw [own_find, own_find]
  unfold withM
  rw [List.findSome?_append, List.findSome?_cons]
  by_cases h : nm' = nm
  · subst h
    have : (l.take (zOf l nm')).findSome? (fun p => if p.1 = nm' then some p.2 else none) = none := by
      rw [List.findSome?_eq_none_iff]
      intro p hp
      rw [if_neg]
      intro e
      have := take_lt hs p hp
      rw [e] at this
      exact ltS_irrefl _ this
    rw [this]
    simp
  · rw [if_neg h, if_neg (fun e => h e.symm)]
    simp only
    conv => rhs; rw [split_z l nm]
    rw [List.findSome?_append]
    congr 1
    by_cases h2 : zOf l nm < l.length ∧ (l.getD (zOf l nm) dP).1 = nm
    · have hb : zBk l nm = zOf l nm + 1 := by unfold zBk; rw [if_pos h2]
      rw [hb, List.drop_eq_getElem_cons h2.1, List.findSome?_cons]
      have e : (l[zOf l nm]'h2.1).1 = nm := by
        have := h2.2
        rw [List.getD_eq_getElem?_getD, List.getElem?_eq_getElem h2.1] at this
        exact this
      rw [if_neg (by rw [e]; exact fun q => h q.symm)]
    · have hb : zBk l nm = zOf l nm := by unfold zBk; rw [if_neg h2]
      rw [hb]
noncomputable def setS (s : List Ob) (i : Nat) (nm : ByteArray) (w : Val) : List Ob := s.set i (withM (s.getD i dO).1 nm w, (s.getD i dO).2)
open Classical in
noncomputable def setM (s : List Ob) (v : Val) (nm : ByteArray) (w : Val) : List Ob × Bool := if MayS s ∧ v.1 = 4 ∧ Right s.length v ∧ Right s.length w then (setS s v.2.toNat nm w, true) else ([], false)
theorem setS_len (s : List Ob) (i : Nat) (nm : ByteArray) (w : Val) : (setS s i nm w).length = s.length := by simp [setS]
theorem setS_at {s : List Ob} {i : Nat} (h : i < s.length) (nm : ByteArray) (w : Val) : (setS s i nm w).getD i dO = (withM (s.getD i dO).1 nm w, (s.getD i dO).2) := by
  simp [setS, List.getD_eq_getElem?_getD, h]
theorem setS_ne {s : List Ob} {i j : Nat} (h : i ≠ j) (nm : ByteArray) (w : Val) : (setS s i nm w).getD j dO = s.getD j dO := by
  simp [setS, List.getD_eq_getElem?_getD, List.getElem?_set_ne h]
theorem may_set {s : List Ob} {i : Nat} {nm : ByteArray} {w : Val} (hm : MayS s) (hi : i < s.length) (hw : Right s.length w) : MayS (setS s i nm w) := by
  intro j hj
  rw [setS_len] at hj ⊢
  by_cases h : i = j
  · subst h
    rw [setS_at hi]
    obtain ⟨h1, h2⟩ := hm i hi
    obtain ⟨h3, h4⟩ := props_iff.1 h1
    refine ⟨props_iff.2 ⟨fun p hp => ?_, with_srt nm w h4⟩, h2⟩
    rcases with_mem hp with rfl | hp
    · exact hw
    · exact h3 p hp
  · rw [setS_ne h]
    exact hm j hj
end Go.PL
end
section
open Go Go.PG Go.PL
set_option linter.all false
namespace Go.PL
theorem ilt_nn (i n : Nat) : P.ilt (i : Int) (n : Int) = decide (i < n) := by rw [Bool.eq_iff_iff, ilt_iff, decide_eq_true_eq]; omega
theorem inb_nn (i n : Nat) : P.inb (i : Int) (n : Int) = decide (i < n) := by rw [Bool.eq_iff_iff, inb_iff, decide_eq_true_eq]; omega
theorem ieq_nn (i n : Nat) : P.ieq (i : Int) (n : Int) = decide (i = n) := by rw [Bool.eq_iff_iff, ieq_iff, decide_eq_true_eq]; omega
theorem cond_t {α : Type} (x y : α) : P.cond true x y = x := rfl
theorem cond_f {α : Type} (x y : α) : P.cond false x y = y := rfl
theorem room_le {a b n : Nat} (h : a + b ≤ 1000000000) (hn : n ≤ 64) : P.room (P.add (a : Int) (b : Int)) n = true := by
  rw [room_nat]
  have := Nat.mul_le_mul h hn
  omega
theorem amb_same {α : Type} (x : Option α) : P.amb x x = x := by simp [P.amb]
theorem clone_any {α : Type} (x : List α) (b : Nat) (h : x.length ≤ 1000000) (hb : b ≤ 64) :
    P.cond (P.ilt 0 (P.len x)) (P.cond (P.not true) (some []) (P.cond (P.room (P.add (P.len (P.nil α)) (P.len x)) b) (some (P.app [] x)) none)) (P.amb (some []) (P.cond (P.room (P.add (P.len (P.nil α)) (P.len x)) b) (some (P.app [] x)) none)) = some x := by
  have hr : P.room (P.add (P.len (P.nil α)) (P.len x)) b = true := by
    rw [len_eq, len_eq]
    exact room_le (by show 0 + x.length ≤ _; omega) hb
  rw [hr, cond_t, len_eq]
  have e : P.app [] x = x := rfl
  rw [e]
  by_cases h0 : 0 < x.length
  · rw [show P.ilt 0 (x.length : Int) = true by rw [ilt_iff]; omega]
    rfl
  · have : x = [] := List.eq_nil_of_length_eq_zero (by omega)
    subst this
    exact amb_same _
theorem cloneP (k : Nat) (x : List Prp) (h : x.length ≤ 1000000) : slices_Clone_api_Prop_api_Prop k x = some x := clone_any x 32 h (by omega)
theorem cloneO (k : Nat) (x : List Ob) (h : x.length ≤ 1000000) : slices_Clone_api_Obj_api_Obj k x = some x := clone_any x 40 h (by omega)
def FewO (s : List Ob) : Prop := s.length ≤ 1000000 ∧ ∀ i, i < s.length → (s.getD i dO).1.length ≤ 1000000
theorem few_fits {s : List Ob} (h : FewO s) : Fits s := ⟨by have := h.1; omega, fun i hi => by have := h.2 i hi; omega⟩
theorem loop_run {τ ρ σ : Type} (n : Nat) (s : Nat → τ) (s0 e : τ) {f : Int × τ → Option ((Int × τ) ⊕ (τ ⊕ ρ))} {A : τ → Option σ} {B : ρ → Option σ} (hn : n ≤ 1000000000) (h0 : s 0 = s0) (h1 : s n = e)
    (hs : ∀ i : Nat, i < n → f ((i : Int), s i) = some (.inl (((i + 1 : Nat) : Int), s (i + 1)))) (he : f ((n : Int), e) = some (.inr (.inl e))) :
    P.bind (P.iter K f (0, s0)) (P.either A B) = A e := by
  subst h0; subst h1
  have := iter_run (f := f) (fun i => ((i : Int), s i)) (.inl (s n)) n 0 K (by unfold K; omega) (fun j hj => by
    simp only [Nat.zero_add]
    exact hs j hj) (by simpa using he)
  rw [show ((0 : Nat) : Int) = 0 from rfl] at this
  rw [this, bind_some]
  rfl
theorem twrap_get {s : List Ob} {i : Nat} (h : i < s.length) (z : List Prp × (Int × Int)) : P.tget (P.twrap (γ := List Prp) s : List (Ob × Option (List Prp))) (i : Int) z = s.getD i dO := by
  unfold P.tget P.twrap
  rw [Int.toNat_natCast, List.getElem?_map, List.getElem?_eq_getElem h, List.getD_eq_getElem?_getD, List.getElem?_eq_getElem h]
  rfl
theorem twrap_len (s : List Ob) : P.len (P.twrap (γ := List Prp) s) = (s.length : Int) := by
  rw [len_eq]; simp [P.twrap]
theorem st_set (s : List Ob) (v : Val) (nm : ByteArray) (w : Val) (h : FewO s) : store_Set K (s, v, nm, w) = some (setM s v nm w) := by
  have hf := few_fits h
  have hl := h.1
  unfold store_Set setM
  try dsimp only
  rw [st_may s hf, bind_some]
  by_cases hm : MayS s
  case neg => rw [if_neg (fun z => hm z.1), decide_eq_false hm]; rfl
  rw [decide_eq_true hm]
  by_cases h4 : v.1 = 4
  case neg =>
    rw [if_neg (fun z => h4 z.2.1), show P.ieq v.1 4 = false by rw [Bool.eq_false_iff, Ne, ieq_iff]; exact h4]; rfl
  rw [show P.ieq v.1 4 = true by rw [ieq_iff]; exact h4, st_right, bind_some]
  by_cases hv : Right s.length v
  case neg => rw [if_neg (fun z => hv z.2.2.1), decide_eq_false hv]; rfl
  rw [decide_eq_true hv, st_right, bind_some]
  by_cases hw : Right s.length w
  case neg => rw [if_neg (fun z => hw z.2.2.2), decide_eq_false hw]; rfl
  rw [decide_eq_true hw, if_pos ⟨hm, h4, hv, hw⟩]
  show (P.bind _ _) = _
  have hb := right4 h4 hv
  obtain ⟨N, hN⟩ : ∃ N : Nat, v.2 = (N : Int) := ⟨v.2.toNat, by omega⟩
  have hNl : N < s.length := by omega
  rw [hN, cloneO K s h.1, bind_some]
  have hsn := hm.srt hNl
  have ho := h.2 N hNl
  rw [loop_run s.length (fun i => (if N < i then (s.getD N dO).1 else [], (N : Int), decide (N < i), P.twrap (γ := List Prp) s)) ([], (N : Int), false, P.twrap (γ := List Prp) s) ((s.getD N dO).1, (N : Int), true, P.twrap (γ := List Prp) s) (by omega) (by simp) (by simp only [if_pos hNl, decide_eq_true hNl]) ?_ ?_]
  · try dsimp only
    have e1 : P.and true (P.ieq (N : Int) (N : Int)) = true := by rw [ieq_nn, decide_eq_true rfl]; rfl
    have e2 : P.ieq (N : Int) (N : Int) = true := by rw [ieq_nn, decide_eq_true rfl]
    rw [twrap_len, inb_nn, decide_eq_true hNl, cond_t, e1, cond_t, twrap_get hNl]
    have e3 : ((s.getD N dO).1, (s.getD N dO).2) = s.getD N dO := rfl
    rw [e3, st_find (s.getD N dO) nm (by omega) hsn, bind_some]
    obtain ⟨q1, q2, q3⟩ := zOf_spec (name := nm) hsn
    have hmap : (P.twrap (γ := List Prp) s).map (fun p => p.1) = s := by
      unfold P.twrap
      rw [List.map_map]
      exact List.map_id s
    have htres : ∀ ys : List Prp, P.tres true (N : Int) (P.twrap (γ := List Prp) s) ys (([], 0, 0) : Ob) = s.set N (ys, (s.getD N dO).2) := fun ys => by
      unfold P.tres
      rw [show P.ile 0 (N : Int) = true by rw [ile_iff]; omega]
      simp only [hmap, Int.toNat_natCast, twrap_get hNl]
    unfold setS
    have hNt : v.2.toNat = N := by omega
    simp only [Int.toNat_natCast]
    generalize s.getD N dO = o at *
    simp only [htres]
    by_cases q : zOf o.1 nm < o.1.length ∧ (o.1.getD (zOf o.1 nm) dP).1 = nm
    · rw [decide_eq_true q, cond_t, cond_t, len_eq, inb_nn, decide_eq_true q.1, cond_t]
      have hwm : P.set o.1 (zOf o.1 nm : Int) ((P.get o.1 (zOf o.1 nm : Int) dP).1, w) = withM o.1 nm w := by
        rw [get_nat, q.2]
        show o.1.set (zOf o.1 nm : Int).toNat (nm, w) = _
        rw [Int.toNat_natCast]
        unfold withM zBk
        rw [if_pos q, List.set_eq_take_append_cons_drop, if_pos q.1]
      rw [hwm]
    · rw [decide_eq_false q, cond_f, cond_t, e2]
      have r1 : P.ilt 0 (P.len [(nm, w)]) = true := rfl
      have r2 : P.cut 0 (zOf o.1 nm : Int) (P.len o.1) = true := by
        unfold P.cut
        rw [len_eq]
        simp
        omega
      have r3 : P.room (P.add (P.len o.1) (P.len [(nm, w)])) 32 = true := by
        rw [len_eq, len_eq]
        exact room_le (by show o.1.length + 1 ≤ _; omega) (by omega)
      rw [r1, r2, r3]
      have hwm : P.insAt o.1 (zOf o.1 nm : Int) [(nm, w)] = withM o.1 nm w := by
        unfold P.insAt withM zBk
        rw [if_neg q, Int.toNat_natCast, List.append_assoc]
        rfl
      rw [hwm]
      rfl
  · intro i hi
    try dsimp only
    have hi2 := h.2 i hi
    rw [twrap_len, ilt_nn, decide_eq_true hi, cond_t, inb_nn, decide_eq_true hi, cond_t, twrap_get hi, ieq_nn, wrap_succ (by omega)]
    by_cases q : i = N
    · subst q
      rw [decide_eq_false (Nat.lt_irrefl _)]
      show (P.bind _ _) = _
      rw [cloneP K _ hi2, bind_some, cond_t, decide_eq_true rfl, cond_t, if_pos (Nat.lt_succ_self i), decide_eq_true (Nat.lt_succ_self i)]
    · have e1 : P.not (P.and (decide (N < i)) (decide (i = N))) = true := by rw [decide_eq_false q]; cases decide (N < i) <;> rfl
      rw [e1, cond_t, cloneP K _ hi2, bind_some, cond_t, decide_eq_false q, cond_f]
      have e2 : P.tput (P.twrap (γ := List Prp) s) (i : Int) (s.getD i dO).1 (([], 0, 0) : Ob) = P.twrap (γ := List Prp) s := by
        unfold P.tput
        rw [twrap_get hi, Int.toNat_natCast]
        apply List.ext_getElem?
        intro j
        rw [List.getElem?_set]
        by_cases z : i = j
        · subst z
          rw [if_pos rfl, if_pos (by simp [P.twrap]; exact hi)]
          unfold P.twrap
          rw [List.getElem?_map, List.getElem?_eq_getElem hi, List.getD_eq_getElem?_getD, List.getElem?_eq_getElem hi]
          rfl
        · rw [if_neg z]
      rw [e2]
      have e3 : (N < i + 1) = (N < i) := by apply propext; omega
      simp only [e3]
  · try dsimp only
    rw [twrap_len, ilt_nn, decide_eq_false (by omega)]
    rfl
end Go.PL
end
section
open Go Go.PG Go.PL
set_option linter.all false
namespace Go.PL
def B (l : List UInt8) : ByteArray := ⟨l.toArray⟩
theorem seq_eq (a b : ByteArray) : P.seq a b = decide (a = b) := by rw [Bool.eq_iff_iff, seq_iff, decide_eq_true_eq]
end Go.PL
end
section
open Go Go.PG Go.PL
set_option linter.all false
namespace Go.PL
def clP (x : List Prp) : Option (List Prp) := P.cond (P.room (P.add (P.len (P.nil Prp)) (P.len x)) 32) (some x) none
def clO (x : List Ob) : Option (List Ob) := P.cond (P.room (P.add (P.len (P.nil Ob)) (P.len x)) 40) (some x) none
theorem cl_any {α : Type} (x : List α) (b : Nat) :
    P.cond (P.ilt 0 (P.len x)) (P.cond (P.not true) (some []) (P.cond (P.room (P.add (P.len (P.nil α)) (P.len x)) b) (some (P.app [] x)) none)) (P.amb (some []) (P.cond (P.room (P.add (P.len (P.nil α)) (P.len x)) b) (some (P.app [] x)) none)) = P.cond (P.room (P.add (P.len (P.nil α)) (P.len x)) b) (some x) none := by
  have e : P.app [] x = x := rfl
  rw [e]
  by_cases h0 : 0 < x.length
  · rw [show P.ilt 0 (P.len x) = true by rw [ilt_iff, len_eq]; omega]
    rfl
  · have : x = [] := List.eq_nil_of_length_eq_zero (by omega)
    subst this
    have r : P.room (P.add (P.len (P.nil α)) (P.len ([] : List α))) b = true := by
      unfold P.room P.add P.nil
      simp [P.len]
    rw [r]
    exact amb_same _
theorem cloneP_eq (k : Nat) : slices_Clone_api_Prop_api_Prop k = clP := by
  funext x
  exact cl_any x 32
theorem cloneO_eq (k : Nat) : slices_Clone_api_Obj_api_Obj k = clO := by
  funext x
  exact cl_any x 40
set_option maxRecDepth 100000 in
theorem fixed19 : law19_fixed K () = some true := by
  unfold law19_fixed store_Set store_New store_copied
  rw [cloneP_eq, cloneO_eq]
  kernel_rfl
end Go.PL
end
section
open Go Go.PG Go.PL
set_option linter.all false
namespace Go.PL
theorem pair_ext {R : Prp → Prp → Prop} (ir : ∀ a, ¬ R a a) (asy : ∀ a b, R a b → ¬ R b a) : ∀ l m : List Prp, l.Pairwise R → m.Pairwise R → (∀ p, p ∈ l ↔ p ∈ m) → l = m := by
  intro l
  induction l with
  | nil =>
    intro m _ _ h
    cases m with
    | nil => rfl
    | cons b m => exact absurd ((h b).2 (by simp)) (by simp)
  | cons a l ih =>
    intro m hl hm h
    cases m with
    | nil => exact absurd ((h a).1 (by simp)) (by simp)
    | cons b m =>
      rw [List.pairwise_cons] at hl hm
      have hab : a = b := by
        rcases List.mem_cons.1 ((h a).1 (by simp)) with q | q
        · exact q
        · rcases List.mem_cons.1 ((h b).2 (by simp)) with q2 | q2
          · exact q2.symm
          · exact absurd (hl.1 b q2) (asy _ _ (hm.1 a q))
      subst hab
      congr 1
      refine ih m hl.2 hm.2 fun p => ⟨fun hp => ?_, fun hp => ?_⟩
      · rcases List.mem_cons.1 ((h p).1 (List.mem_cons_of_mem _ hp)) with q | q
        · subst q; exact absurd (hl.1 p hp) (ir p)
        · exact q
      · rcases List.mem_cons.1 ((h p).2 (List.mem_cons_of_mem _ hp)) with q | q
        · subst q; exact absurd (hm.1 p hp) (ir p)
        · exact q
theorem mem_own {l : List Prp} (hs : Srt l) (p : Prp) : p ∈ l ↔ ownM l p.1 = some p.2 := by
  rw [own_find]
  have hp := srt_iff.1 hs
  induction l with
  | nil => simp
  | cons a l ih =>
    rw [List.pairwise_cons] at hp
    rw [List.findSome?_cons]
    by_cases q : a.1 = p.1
    · rw [if_pos q]
      constructor
      · intro h
        rcases List.mem_cons.1 h with z | z
        · rw [z]
        · exact absurd (hp.1 p z) (by rw [q]; exact ltS_irrefl _)
      · intro h
        injection h with h
        have : a = p := Prod.ext q h
        rw [this]; simp
    · rw [if_neg q]
      have ih' := ih (srt_iff.2 hp.2) hp.2
      simp only
      refine Iff.trans ?_ ih'
      constructor
      · intro h
        rcases List.mem_cons.1 h with z | z
        · exact absurd (by rw [z]) q
        · exact z
      · exact fun h => List.mem_cons_of_mem _ h
theorem own_ext {l m : List Prp} (hl : Srt l) (hm : Srt m) (h : ∀ n, ownM l n = ownM m n) : l = m :=
  pair_ext (fun a => ltS_irrefl _) (fun a b => ltS_asymm) l m (srt_iff.1 hl) (srt_iff.1 hm) fun p => by rw [mem_own hl, mem_own hm, h]
theorem with_twice {l : List Prp} (hs : Srt l) (n : ByteArray) (u w : Val) : withM (withM l n u) n w = withM l n w := by
  have h1 := with_srt n u hs
  refine own_ext (with_srt n w h1) (with_srt n w hs) fun m => ?_
  rw [own_with _ _ _ h1, own_with _ _ _ hs, own_with _ _ _ hs]
  by_cases q : m = n <;> simp [q]
theorem with_turn {l : List Prp} (hs : Srt l) {n n' : ByteArray} (hn : n ≠ n') (u w : Val) : withM (withM l n u) n' w = withM (withM l n' w) n u := by
  have h1 := with_srt n u hs
  have h2 := with_srt n' w hs
  refine own_ext (with_srt n' w h1) (with_srt n u h2) fun m => ?_
  rw [own_with _ _ _ h1, own_with _ _ _ hs, own_with _ _ _ h2, own_with _ _ _ hs]
  by_cases q : m = n
  · rw [if_neg (fun z => hn (q.symm.trans z)), if_pos q, if_pos q]
  · by_cases q2 : m = n'
    · rw [if_pos q2, if_neg q, if_pos q2]
    · rw [if_neg q2, if_neg q, if_neg q, if_neg q2]
theorem set_twice {s : List Ob} (hm : MayS s) {i : Nat} (hi : i < s.length) (n : ByteArray) (u w : Val) : setS (setS s i n u) i n w = setS s i n w := by
  have e := setS_at hi n u
  show (setS s i n u).set i _ = s.set i _
  rw [e]
  simp only
  rw [with_twice (hm.srt hi)]
  show (s.set i _).set i _ = _
  rw [List.set_set]
theorem set_turn {s : List Ob} (hm : MayS s) {i : Nat} (hi : i < s.length) {n n' : ByteArray} (hn : n ≠ n') (u w : Val) : setS (setS s i n u) i n' w = setS (setS s i n' w) i n u := by
  have e := setS_at hi n u
  have e2 := setS_at hi n' w
  show (setS s i n u).set i _ = (setS s i n' w).set i _
  rw [e, e2]
  simp only
  rw [with_turn (hm.srt hi) hn]
  show (s.set i _).set i _ = (s.set i _).set i _
  rw [List.set_set, List.set_set]
theorem props_same (l : List Prp) (h : l.length ≤ 1000000) : ref19_Props K (l, l) = some true := by
  unfold ref19_Props
  try dsimp only
  rw [show P.ieq (P.len l) (P.len l) = true by rw [ieq_iff]]
  show (P.bind _ _) = _
  rw [iter_all (n := l.length) (e := .inl ()) (r := .inr false) (fun _ => True) K ?_ ?_ (by unfold K; omega)]
  · rw [if_pos (fun _ _ => trivial)]; rfl
  · intro i hi
    rw [if_pos trivial, len_eq, ilt_nn, decide_eq_true hi, cond_t, inb_nn, decide_eq_true hi, cond_t, cond_t, show P.and (P.seq (P.get l (i : Int) dP).1 (P.get l (i : Int) dP).1) (P.and (P.ieq (P.get l (i : Int) dP).2.1 (P.get l (i : Int) dP).2.1) (P.ieq (P.get l (i : Int) dP).2.2 (P.get l (i : Int) dP).2.2)) = true by
      rw [and_iff, and_iff, seq_iff, ieq_iff, ieq_iff]
      exact ⟨rfl, rfl, rfl⟩, wrap_succ (by omega)]
    rfl
  · rw [len_eq, ilt_nn, decide_eq_false (by omega)]; rfl
theorem store_same (s : List Ob) (h : FewO s) : ref19_Same K (s, s) = some true := by
  have hl := h.1
  unfold ref19_Same
  try dsimp only
  rw [show P.ieq (P.len s) (P.len s) = true by rw [ieq_iff]]
  show (P.bind _ _) = _
  rw [iter_all (n := s.length) (e := .inl ()) (r := .inr false) (fun _ => True) K ?_ ?_ (by unfold K; omega)]
  · rw [if_pos (fun _ _ => trivial)]; rfl
  · intro i hi
    have e : P.get s (i : Int) (([], 0, 0) : Ob) = s.getD i dO := get_nat _ _ _
    rw [if_pos trivial, len_eq, ilt_nn, decide_eq_true hi, cond_t, inb_nn, decide_eq_true hi, cond_t, cond_t, e, show P.and (P.ieq (s.getD i dO).2.1 (s.getD i dO).2.1) (P.ieq (s.getD i dO).2.2 (s.getD i dO).2.2) = true by
      rw [and_iff, ieq_iff, ieq_iff]
      exact ⟨rfl, rfl⟩]
    show P.cond _ _ _ = _
    rw [cond_t, cond_t, props_same _ (h.2 i hi), bind_some, wrap_succ (by omega)]
    rfl
  · rw [len_eq, ilt_nn, decide_eq_false (by omega)]; rfl
def SmallO (s : List Ob) : Prop := (∀ i, i < s.length → (s.getD i dO).1.length ≤ 60) ∧ s.length ≤ 100
theorem small_few {s : List Ob} (h : SmallO s) : FewO s := ⟨by have := h.2; omega, fun i hi => by have := h.1 i hi; omega⟩
theorem few_set {s : List Ob} (h : SmallO s) (i : Nat) (nm : ByteArray) (w : Val) : FewO (setS s i nm w) := by
  refine ⟨by rw [setS_len]; have := h.2; omega, fun j hj => ?_⟩
  rw [setS_len] at hj
  have hb := h.1 j hj
  by_cases q : i = j
  · subst q
    rw [setS_at hj]
    have := with_len (s.getD i dO).1 nm w
    show (withM _ _ _).length ≤ _
    omega
  · rw [setS_ne q]; omega
open Classical in
theorem g19 {p : Prop} [Decidable p] {X : Option Bool} (h : p → X = some true) : P.cond (P.not (decide p)) (P.bind (law19_fixed K ()) fun r => some r) X = some true := by
  rw [fixed19, bind_some]
  by_cases q : p
  · rw [decide_eq_true q]; exact h q
  · rw [decide_eq_false q]; rfl
theorem g0_19 {X : Option Bool} (h : X = some true) : (P.bind (law19_fixed K ()) fun r => P.cond (P.not r) (P.bind (law19_fixed K ()) fun r => some r) X) = some true := by
  rw [fixed19, bind_some]
  exact h
end Go.PL
end
section
open Go Go.PG Go.PL
set_option linter.all false
namespace Go.PL
theorem fit_of {s : List Ob} (h : s.length ≤ 9223372036854775807 ∧ ∀ o, o ∈ s → o.1.length ≤ 9223372036854775807) : Fits s :=
  ⟨by have := h.1; omega, fun i hi => by have := h.2 _ (getD_mem hi dO); omega⟩
abbrev Put := Val × ByteArray × Val
theorem x_size (nm : ByteArray) (h : nm.size ≤ 140737488355328) : P.sfit nm { data := #[120] } = true := by
  unfold P.sfit
  rw [Nat.ble_eq]
  show nm.size + 1 ≤ _
  omega
theorem x_ne (nm : ByteArray) : P.scat nm { data := #[120] } ≠ nm := fun h => by
  have e : (P.scat nm { data := #[120] }).data.toList = nm.data.toList := by rw [h]
  have : (P.scat nm { data := #[120] }).data.toList = nm.data.toList ++ [120] := by simp [P.scat]
  rw [this] at e
  have := congrArg List.length e
  simp at this
theorem setM_pos {s : List Ob} {v : Val} {nm : ByteArray} {w : Val} (h : MayS s ∧ v.1 = 4 ∧ Right s.length v ∧ Right s.length w) : setM s v nm w = (setS s v.2.toNat nm w, true) := by
  unfold setM
  rw [if_pos h]
theorem setM_neg {s : List Ob} {v : Val} {nm : ByteArray} {w : Val} (h : ¬ (MayS s ∧ v.1 = 4 ∧ Right s.length v ∧ Right s.length w)) : setM s v nm w = ([], false) := by
  unfold setM
  rw [if_neg h]
theorem few_sets {s : List Ob} (h : FewO s) (hl : s.length ≤ 1000) (hs : ∀ i, i < s.length → (s.getD i dO).1.length ≤ 1000) (i : Nat) (nm : ByteArray) (w : Val) : FewO (setS s i nm w) := by
  refine ⟨by rw [setS_len]; omega, fun j hj => ?_⟩
  rw [setS_len] at hj
  have hb := hs j hj
  by_cases q : i = j
  · subst q
    rw [setS_at hj]
    have := with_len (s.getD i dO).1 nm w
    show (withM _ _ _).length ≤ _
    omega
  · rw [setS_ne q]; omega
theorem turns19 (x : List Ob × Put × Val) (hf : Fits x.1) (hn : x.2.1.2.1.size ≤ 140737488355328) : law19_StoreTurns K x = some true := by
  obtain ⟨s, ⟨v, nm, u⟩, w⟩ := x
  unfold law19_StoreTurns
  try dsimp only at hf hn ⊢
  apply g0_19
  rw [ref_small s hf, bind_some]
  refine g19 fun sm => ?_
  have sm : SmallO s := sm
  have fo := small_few sm
  have hl := sm.2
  rw [ref_may s hf, bind_some]
  refine g19 fun hm => ?_
  rw [ref_right, bind_some]
  refine g19 fun hw => ?_
  rw [st_set s v nm u fo, bind_some]
  by_cases q : MayS s ∧ v.1 = 4 ∧ Right s.length v ∧ Right s.length u
  · obtain ⟨_, h4, hv, hu⟩ := q
    have hb := right4 h4 hv
    have hi : v.2.toNat < s.length := by omega
    have f1 := few_set sm v.2.toNat nm u
    have f3 := few_set sm v.2.toNat (P.scat nm { data := #[120] }) w
    have m1 := may_set (nm := nm) hm hi hu
    have m3 := may_set (nm := P.scat nm { data := #[120] }) hm hi hw
    have l61 : ∀ (n : ByteArray) (z : Val) (j : Nat), j < (setS s v.2.toNat n z).length → ((setS s v.2.toNat n z).getD j dO).1.length ≤ 1000 := fun n z j hj => by
      rw [setS_len] at hj
      have hb := sm.1 j hj
      by_cases q : v.2.toNat = j
      · subst q
        rw [setS_at hj]
        have := with_len (s.getD v.2.toNat dO).1 n z
        show (withM _ _ _).length ≤ _
        omega
      · rw [setS_ne q]; omega
    have i1 : v.2.toNat < (setS s v.2.toNat nm u).length := by rw [setS_len]; exact hi
    rw [setM_pos ⟨hm, h4, hv, hu⟩]
    show P.bind (store_Set K (setS s v.2.toNat nm u, v, nm, w)) _ = _
    rw [st_set _ v nm w f1, bind_some, setM_pos (s := setS s v.2.toNat nm u) ⟨m1, h4, by rw [setS_len]; exact hv, by rw [setS_len]; exact hw⟩, st_set s v nm w fo, bind_some, setM_pos ⟨hm, h4, hv, hw⟩, x_size nm hn, cond_t]
    show P.bind (store_Set K (setS s v.2.toNat nm u, v, P.scat nm { data := #[120] }, w)) _ = _
    rw [st_set _ v _ w f1, bind_some, setM_pos (s := setS s v.2.toNat nm u) ⟨m1, h4, by rw [setS_len]; exact hv, by rw [setS_len]; exact hw⟩, cond_t, st_set s v _ w fo, bind_some, setM_pos ⟨hm, h4, hv, hw⟩]
    show P.bind (store_Set K (setS s v.2.toNat (P.scat nm { data := #[120] }) w, v, nm, u)) _ = _
    rw [st_set _ v nm u f3, bind_some, setM_pos (s := setS s v.2.toNat (P.scat nm { data := #[120] }) w) ⟨m3, h4, by rw [setS_len]; exact hv, by rw [setS_len]; exact hu⟩]
    show P.bind (ref19_Same K (setS (setS s v.2.toNat nm u) v.2.toNat nm w, setS s v.2.toNat nm w)) _ = _
    rw [set_twice hm hi, store_same _ (few_set sm _ _ _), bind_some]
    show P.bind (ref19_Same K (setS (setS s v.2.toNat nm u) v.2.toNat (P.scat nm { data := #[120] }) w, setS (setS s v.2.toNat (P.scat nm { data := #[120] }) w) v.2.toNat nm u)) _ = _
    rw [set_turn hm hi (fun z => x_ne nm z.symm), store_same _ (few_sets f3 (by rw [setS_len]; omega) (l61 _ _) _ _ _), bind_some]
  · rw [setM_neg q]; rfl
end Go.PL
end
section
open Go Go.PG Go.PL
namespace Go.PL
theorem sz_bytes {n : Nat} (h : n ≤ reachBytes) : n ≤ 140737488355328 := by
  unfold reachBytes at h
  omega
end Go.PL
end

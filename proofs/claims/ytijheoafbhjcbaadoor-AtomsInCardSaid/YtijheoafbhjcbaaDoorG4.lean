/- Lemmas for the claim. -/
import Derived.Test.YtijheoafbhjcbaaDoorProg
import Derived.KernelRfl
import Derived.Test.YtijheoafbhjcbaaDoorG3
import Derived.Lib.Strings
import Derived.Lib.Slices
import Derived.Lib.Walk
import Derived.Lib.Bytealg
import Derived.Test.YtijheoafbhjcbaaDoorG1
import Derived.Laws.Strings
import Derived.Lib.ItoaLen
import Derived.Lib.Join
set_option linter.all false
section
open Go Go.PG Go.Proofs
set_option linter.all false
set_option maxRecDepth 1000000
set_option maxHeartbeats 4000000
abbrev T_api_Atom : Ty := .st (.pair (.int .i64) (.int .i64))
noncomputable def T : List (Nat × TyRow) := [(3, ⟨(.int .i64), 0, false, false⟩), (4, ⟨.bool, 0, false, false⟩), (9, ⟨.str, 0, false, false⟩), (20, ⟨.opq, 0, false, false⟩), (22, ⟨(.slice T_api_Atom), 16, false, false⟩), (24, ⟨T_api_Atom, 0, true, false⟩), (37, ⟨.opq, 0, false, false⟩), (39, ⟨.opq, 0, false, false⟩), (42, ⟨(.slice .str), 16, false, false⟩), (53, ⟨(.slice (.slice T_api_Atom)), 24, false, false⟩), (66, ⟨(.int .u64), 0, false, false⟩), (78, ⟨(.slice (.int .i64)), 8, false, false⟩)]
def sortF (l : List (Int × Int)) : Option (List (Int × Int)) := SortD.sortF l
theorem mixedOk : Tryd.prog.follows .mixedOrders = true := by kernel_rfl
theorem tabOk : tysB Tryd.prog T = true := by kernel_rfl
abbrev GG (w : World) : Prop := Lib.TabIs Tryd.prog w "internal/strconv.uint64pow10" .u64 Lib.pow10Tab
theorem f25_at : Tryd.prog.funcs[25]? = some Tryd.f25 := by kernel_rfl
theorem f25_ok : (Tryd.f25.name != "runtime.NumGoroutine" && Tryd.f25.body.isSome) = true := by kernel_rfl
theorem f41_at : Tryd.prog.funcs[41]? = some Tryd.f41 := by kernel_rfl
theorem f41_ok : (Tryd.f41.name != "runtime.NumGoroutine" && Tryd.f41.body.isSome) = true := by kernel_rfl
theorem f62_at : Tryd.prog.funcs[62]? = some Tryd.f62 := by kernel_rfl
theorem f62_ok : (Tryd.f62.name != "runtime.NumGoroutine" && Tryd.f62.body.isSome) = true := by kernel_rfl
theorem f42_at : Tryd.prog.funcs[42]? = some Tryd.f42 := by kernel_rfl
theorem f42_ok : (Tryd.f42.name != "runtime.NumGoroutine" && Tryd.f42.body.isSome) = true := by kernel_rfl
theorem f29_at : Tryd.prog.funcs[29]? = some Tryd.f29 := by kernel_rfl
theorem f29_ok : (Tryd.f29.name != "runtime.NumGoroutine" && Tryd.f29.body.isSome) = true := by kernel_rfl
theorem f27_at : Tryd.prog.funcs[27]? = some Tryd.f27 := by kernel_rfl
theorem f27_ok : (Tryd.f27.name != "runtime.NumGoroutine" && Tryd.f27.body.isSome) = true := by kernel_rfl
theorem f26_at : Tryd.prog.funcs[26]? = some Tryd.f26 := by kernel_rfl
theorem f26_ok : (Tryd.f26.name != "runtime.NumGoroutine" && Tryd.f26.body.isSome) = true := by kernel_rfl
theorem f10_at : Tryd.prog.funcs[10]? = some Tryd.f10 := by kernel_rfl
theorem f10_ok : (Tryd.f10.name != "runtime.NumGoroutine" && Tryd.f10.body.isSome) = true := by kernel_rfl
theorem f32_at : Tryd.prog.funcs[32]? = some Tryd.f32 := by kernel_rfl
theorem f32_ok : (Tryd.f32.name != "runtime.NumGoroutine" && Tryd.f32.body.isSome) = true := by kernel_rfl
theorem f12_at : Tryd.prog.funcs[12]? = some Tryd.f12 := by kernel_rfl
theorem f12_ok : (Tryd.f12.name != "runtime.NumGoroutine" && Tryd.f12.body.isSome) = true := by kernel_rfl
theorem f33_at : Tryd.prog.funcs[33]? = some Tryd.f33 := by kernel_rfl
theorem f33_ok : (Tryd.f33.name != "runtime.NumGoroutine" && Tryd.f33.body.isSome) = true := by kernel_rfl
theorem f14_at : Tryd.prog.funcs[14]? = some Tryd.f14 := by kernel_rfl
theorem f14_ok : (Tryd.f14.name != "runtime.NumGoroutine" && Tryd.f14.body.isSome) = true := by kernel_rfl
theorem f46_at : Tryd.prog.funcs[46]? = some Tryd.f46 := by kernel_rfl
theorem f46_ok : (Tryd.f46.name != "runtime.NumGoroutine" && Tryd.f46.body.isSome) = true := by kernel_rfl
theorem f34_at : Tryd.prog.funcs[34]? = some Tryd.f34 := by kernel_rfl
theorem f34_ok : (Tryd.f34.name != "runtime.NumGoroutine" && Tryd.f34.body.isSome) = true := by kernel_rfl
theorem f18_at : Tryd.prog.funcs[18]? = some Tryd.f18 := by kernel_rfl
theorem f18_ok : (Tryd.f18.name != "runtime.NumGoroutine" && Tryd.f18.body.isSome) = true := by kernel_rfl
theorem f16_at : Tryd.prog.funcs[16]? = some Tryd.f16 := by kernel_rfl
theorem f16_ok : (Tryd.f16.name != "runtime.NumGoroutine" && Tryd.f16.body.isSome) = true := by kernel_rfl
theorem f20_at : Tryd.prog.funcs[20]? = some Tryd.f20 := by kernel_rfl
theorem f20_ok : (Tryd.f20.name != "runtime.NumGoroutine" && Tryd.f20.body.isSome) = true := by kernel_rfl
theorem f35_at : Tryd.prog.funcs[35]? = some Tryd.f35 := by kernel_rfl
theorem f35_ok : (Tryd.f35.name != "runtime.NumGoroutine" && Tryd.f35.body.isSome) = true := by kernel_rfl
theorem f22_at : Tryd.prog.funcs[22]? = some Tryd.f22 := by kernel_rfl
theorem f22_ok : (Tryd.f22.name != "runtime.NumGoroutine" && Tryd.f22.body.isSome) = true := by kernel_rfl
theorem f8_at : Tryd.prog.funcs[8]? = some Tryd.f8 := by kernel_rfl
theorem f8_ok : (Tryd.f8.name != "runtime.NumGoroutine" && Tryd.f8.body.isSome) = true := by kernel_rfl
theorem f9_at : Tryd.prog.funcs[9]? = some Tryd.f9 := by kernel_rfl
theorem f9_ok : (Tryd.f9.name != "runtime.NumGoroutine" && Tryd.f9.body.isSome) = true := by kernel_rfl
theorem f19_at : Tryd.prog.funcs[19]? = some Tryd.f19 := by kernel_rfl
theorem f19_ok : (Tryd.f19.name != "runtime.NumGoroutine" && Tryd.f19.body.isSome) = true := by kernel_rfl
theorem f43_at : Tryd.prog.funcs[43]? = some Tryd.f43 := by kernel_rfl
theorem f43_ok : (Tryd.f43.name != "runtime.NumGoroutine" && Tryd.f43.body.isSome) = true := by kernel_rfl
theorem f44_at : Tryd.prog.funcs[44]? = some Tryd.f44 := by kernel_rfl
theorem f44_ok : (Tryd.f44.name != "runtime.NumGoroutine" && Tryd.f44.body.isSome) = true := by kernel_rfl
theorem f31_at : Tryd.prog.funcs[31]? = some Tryd.f31 := by kernel_rfl
theorem f31_ok : (Tryd.f31.name != "runtime.NumGoroutine" && Tryd.f31.body.isSome) = true := by kernel_rfl
theorem f11_at : Tryd.prog.funcs[11]? = some Tryd.f11 := by kernel_rfl
theorem f11_ok : (Tryd.f11.name != "runtime.NumGoroutine" && Tryd.f11.body.isSome) = true := by kernel_rfl
theorem f13_at : Tryd.prog.funcs[13]? = some Tryd.f13 := by kernel_rfl
theorem f13_ok : (Tryd.f13.name != "runtime.NumGoroutine" && Tryd.f13.body.isSome) = true := by kernel_rfl
theorem f15_at : Tryd.prog.funcs[15]? = some Tryd.f15 := by kernel_rfl
theorem f15_ok : (Tryd.f15.name != "runtime.NumGoroutine" && Tryd.f15.body.isSome) = true := by kernel_rfl
theorem f17_at : Tryd.prog.funcs[17]? = some Tryd.f17 := by kernel_rfl
theorem f17_ok : (Tryd.f17.name != "runtime.NumGoroutine" && Tryd.f17.body.isSome) = true := by kernel_rfl
theorem f21_at : Tryd.prog.funcs[21]? = some Tryd.f21 := by kernel_rfl
theorem f21_ok : (Tryd.f21.name != "runtime.NumGoroutine" && Tryd.f21.body.isSome) = true := by kernel_rfl
theorem f51_at : Tryd.prog.funcs[51]? = some Tryd.f51 := by kernel_rfl
theorem f51_ok : (Tryd.f51.name != "runtime.NumGoroutine" && Tryd.f51.body.isSome) = true := by kernel_rfl
theorem f37_at : Tryd.prog.funcs[37]? = some Tryd.f37 := by kernel_rfl
theorem f37_ok : (Tryd.f37.name != "runtime.NumGoroutine" && Tryd.f37.body.isSome) = true := by kernel_rfl
theorem f23_at : Tryd.prog.funcs[23]? = some Tryd.f23 := by kernel_rfl
theorem f23_ok : (Tryd.f23.name != "runtime.NumGoroutine" && Tryd.f23.body.isSome) = true := by kernel_rfl
theorem f3_at : Tryd.prog.funcs[3]? = some Tryd.f3 := by kernel_rfl
theorem f3_ok : (Tryd.f3.name != "runtime.NumGoroutine" && Tryd.f3.body.isSome) = true := by kernel_rfl
theorem f4_at : Tryd.prog.funcs[4]? = some Tryd.f4 := by kernel_rfl
theorem f4_ok : (Tryd.f4.name != "runtime.NumGoroutine" && Tryd.f4.body.isSome) = true := by kernel_rfl
theorem f5_at : Tryd.prog.funcs[5]? = some Tryd.f5 := by kernel_rfl
theorem f5_ok : (Tryd.f5.name != "runtime.NumGoroutine" && Tryd.f5.body.isSome) = true := by kernel_rfl
theorem f6_at : Tryd.prog.funcs[6]? = some Tryd.f6 := by kernel_rfl
theorem f6_ok : (Tryd.f6.name != "runtime.NumGoroutine" && Tryd.f6.body.isSome) = true := by kernel_rfl
theorem f7_at : Tryd.prog.funcs[7]? = some Tryd.f7 := by kernel_rfl
theorem f7_ok : (Tryd.f7.name != "runtime.NumGoroutine" && Tryd.f7.body.isSome) = true := by kernel_rfl
theorem f45_at : Tryd.prog.funcs[45]? = some Tryd.f45 := by kernel_rfl
theorem f45_ok : (Tryd.f45.name != "runtime.NumGoroutine" && Tryd.f45.body.isSome) = true := by kernel_rfl
theorem f24_at : Tryd.prog.funcs[24]? = some Tryd.f24 := by kernel_rfl
theorem f24_ok : (Tryd.f24.name != "runtime.NumGoroutine" && Tryd.f24.body.isSome) = true := by kernel_rfl
theorem f38_at : Tryd.prog.funcs[38]? = some Tryd.f38 := by kernel_rfl
theorem f38_ok : (Tryd.f38.name != "runtime.NumGoroutine" && Tryd.f38.body.isSome) = true := by kernel_rfl
theorem f30_at : Tryd.prog.funcs[30]? = some Tryd.f30 := by kernel_rfl
theorem f30_ok : (Tryd.f30.name != "runtime.NumGoroutine" && Tryd.f30.body.isSome) = true := by kernel_rfl
theorem f47_at : Tryd.prog.funcs[47]? = some Tryd.f47 := by kernel_rfl
theorem f47_ok : (Tryd.f47.name != "runtime.NumGoroutine" && Tryd.f47.body.isSome) = true := by kernel_rfl
theorem f36_at : Tryd.prog.funcs[36]? = some Tryd.f36 := by kernel_rfl
theorem f36_ok : (Tryd.f36.name != "runtime.NumGoroutine" && Tryd.f36.body.isSome) = true := by kernel_rfl
noncomputable def codes : List (Nat × Func × List (Nat × Hint)) := [(25, Tryd.f25, []), (45, Tryd.f45, []), (24, Tryd.f24, [(5, ⟨[.var 5 (.d (.int .i64)), .var 6 (.d (.int .i64)), .cel 0 [] (.st (.pair (.int .i64) (.int .i64)))], [], (some (0, [.var 5 (.d (.int .i64)), .cel 0 [] (.st (.pair (.int .i64) (.int .i64)))]))⟩)]), (38, Tryd.f38, [(2, ⟨[.var 8 (.d (.int .i64))], [], (some (0, []))⟩)]), (30, Tryd.f30, [(4, ⟨[.var 3 (.d (.int .i64)), .cel 0 [] (.st (.pair (.int .i64) (.int .i64)))], [], (some (0, [.cel 0 [] (.st (.pair (.int .i64) (.int .i64)))]))⟩), (9, ⟨[.var 3 (.d (.int .i64)), .var 5 (.d (.int .i64)), .cel 0 [] (.st (.pair (.int .i64) (.int .i64)))], [], (some (2, [.var 3 (.d (.int .i64)), .cel 0 [] (.st (.pair (.int .i64) (.int .i64)))]))⟩)])]
theorem codesOk : CodesOk Tryd.prog codes := .cons f25_at f25_ok <| .cons f45_at f45_ok <| .cons f24_at f24_ok <| .cons f38_at f38_ok <| .cons f30_at f30_ok <| .nil
theorem ggKeep : ∀ w w' : World, GG w → Go.RowKit.Below w.heap.size w w' → GG w' := fun w w' h hb => by
  show World.var? Tryd.prog w' _ = _
  have h : World.var? Tryd.prog w _ = _ := h
  unfold World.var? at h ⊢
  cases hg : Tryd.prog.globalNamed "internal/strconv.uint64pow10" with
  | none => rw [hg] at h; cases h
  | some g =>
    rw [hg] at h
    simp only [Option.bind_some] at h ⊢
    have hlt : g < w.heap.size := by
      rcases Nat.lt_or_ge g w.heap.size with q | q
      · exact q
      · rw [Array.getElem?_eq_none q] at h; cases h
    rw [hb.block g hlt]
    exact h
def strconv_Itoa (_k : Nat) (n : Int) : Option ByteArray := if -9223372036854775808 ≤ n ∧ n ≤ 9223372036854775807 then some ⟨(Lib.itoa n).toArray⟩ else none
theorem strconv_Itoa_spec (k : Nat) : SpecOk Tryd.prog GG 47 ⟨(.int .i64), .str, strconv_Itoa k⟩ := by
  intro Z w vals x r hG _ hx ha
  simp only [strconv_Itoa] at hx
  split at hx
  case isFalse => cases hx
  rename_i hb
  injection hx with hx
  simp only [argAV, RepT] at ha
  obtain ⟨v1, e1, h1⟩ := ha
  have h1 := repV_int (k := .i64) (n := x) (by simpa only [RepV] using h1)
  subst h1
  obtain rfl : vals = #[.int .i64 x] := Array.toList_inj.1 (by simpa using e1)
  refine (Tryd.strconv_Itoa x hb.1 hb.2 w hG).mono fun e w' ⟨he, k, os, hw⟩ => ⟨_, he, ?_, ?_⟩
  · rw [hw]
    refine ⟨rfl, rfl, rfl, ?_, fun j hj => ?_⟩
    · show w.heap.size ≤ (w.heap ++ os).size
      simp
    · show (w.heap ++ os)[j]? = w.heap[j]?
      exact Array.getElem?_append_left hj
  · rw [← hx]; simp [resAV, RepV, RepD, isSt]
def strings_Join (_k : Nat) (x : List ByteArray × ByteArray) : Option ByteArray := if x.1.length ≤ 140737488355328 ∧ (Lib.join (x.1.map fun b => b.data.toList) x.2.data.toList).length ≤ 140737488355328 then some ⟨(Lib.join (x.1.map fun b => b.data.toList) x.2.data.toList).toArray⟩ else none
theorem strings_Join_spec (k : Nat) : SpecOk Tryd.prog GG 36 ⟨(.pair (.slice .str) .str), .str, strings_Join k⟩ := by
  intro Z w vals x r _ _ hx ha
  simp only [strings_Join] at hx
  split at hx
  case isFalse => cases hx
  rename_i hb
  injection hx with hx
  simp only [argAV, RepT] at ha
  obtain ⟨v1, l1, e1, h1, h2⟩ := ha
  obtain ⟨v2, rfl, h2⟩ := h2
  have h2 : v2 = .string x.2 := repV_str (c := cz Z w) (by simpa only [RepV] using h2)
  subst h2
  rcases repV_data h1 with ⟨q, _⟩ | ⟨_, q⟩
  · cases q
  simp only [RepD] at q
  obtain ⟨A, cap, ev, hle, hel⟩ := q
  obtain rfl : v1 = .slice A x.1.length cap := by simpa using ev
  obtain rfl : vals = #[.slice A x.1.length cap, .string x.2] := Array.toList_inj.1 (by simpa using e1)
  rcases hel with hnil | ⟨b, o, rfl, hbw, _, hel⟩
  · rw [hnil]
    refine (Tryd.strings_Join_none A cap x.2 w).mono fun e w' ⟨he, hw⟩ => ⟨_, he, ?_, ?_⟩
    · rw [hw]; exact Go.RowKit.Below.refl _ _
    · rw [← hx, hnil]; simp [resAV, RepV, RepD, isSt, Lib.join_nil]
  · refine (Tryd.strings_Join b o cap x.1 x.2 w (fun j y hy => ?_) hbw hb.1 hle hb.2).mono fun e w' ⟨he, hw⟩ => ⟨_, he, hw, ?_⟩
    · obtain ⟨c, hc, hm⟩ := hel j y hy
      subst hc
      have := hm 0 (.string y) rfl
      have this : w.cell? ⟨b, o + j * 1 + 0, none⟩ = some (.string y) := this
      rw [Nat.mul_one, Nat.add_zero] at this
      exact this
    · rw [← hx]; simp [resAV, RepV, RepD, isSt]

theorem sort_ok : InplOk Tryd.prog GG 28 ⟨T_api_Atom, 29, sortF⟩ := SortD.sort_ok GG
theorem f28_at : Tryd.prog.funcs[28]? = some Tryd.f28 := by kernel_rfl
theorem f28_ok : (Tryd.f28.name != "runtime.NumGoroutine" && Tryd.f28.body.isSome) = true := by kernel_rfl
theorem inplOk : InplsOk Tryd.prog GG [(28, ⟨T_api_Atom, 29, sortF⟩)] := .cons sort_ok f28_at f28_ok .nil
noncomputable abbrev EN (k : Nat) (sp : List (Nat × Go.PG.Spec)) : Go.PG.Env := { T := T, specs := sp, codes := codes, k := k, inpl := [(28, ⟨T_api_Atom, 29, sortF⟩)], calm := [10, 0] }
noncomputable abbrev EN8 (k : Nat) (sp : List (Nat × Go.PG.Spec)) : Go.PG.Env := { T := T, specs := sp, codes := codes, k := k, inpl := [(28, ⟨T_api_Atom, 29, sortF⟩)], calm := [10, 0, 1] }
noncomputable def slices_Clone_api_Atom_api_Atom : (k : Nat) → (Ty.D (.slice T_api_Atom)) → Option (Ty.D (.slice T_api_Atom)) := fun (k : Nat) (x : T_api_Atom.slice.D) => P.cond (P.ilt ((0 : Int)) (P.len x)) (P.cond (P.not true) (some []) (P.cond (P.room (P.add (P.len (P.nil (Int × Int))) (P.len x)) 16) (some (P.app [] x)) none)) (P.amb (some []) (P.cond (P.room (P.add (P.len (P.nil (Int × Int))) (P.len x)) 16) (some (P.app [] x)) none))
theorem slices_Clone_api_Atom_api_Atom_eq (k : Nat) (x : (Ty.D (.slice T_api_Atom))) : evFn (EN k []) 6 Tryd.f25 [] (.slice T_api_Atom) (.slice T_api_Atom) x = slices_Clone_api_Atom_api_Atom k x := by kernel_rfl
theorem slices_Clone_api_Atom_api_Atom_spec (k : Nat) : SpecOk Tryd.prog GG 25 ⟨(.slice T_api_Atom), (.slice T_api_Atom), slices_Clone_api_Atom_api_Atom k⟩ :=
  fn_spec (envOk (E := EN k []) tabOk (.nil) codesOk mixedOk ggKeep (hi := inplOk)) f25_at (fun x => (slices_Clone_api_Atom_api_Atom_eq k x).symm)
noncomputable def cmp_Or_int : (k : Nat) → (Ty.D (.slice (.int .i64))) → Option (Ty.D (.int .i64)) := fun (k : Nat) (x : (Ty.int IntKind.i64).slice.D) => P.bind (P.iter k (fun (y : Int) => P.cond (P.ilt y (P.len x)) (P.cond (P.inb y (P.len x)) (P.cond (P.not (P.ieq (P.get x y ((0 : Int))) ((0 : Int)))) (some (Sum.inr (Sum.inr (P.get x y ((0 : Int)))))) (some (Sum.inl (P.wrap IntKind.i64 (P.add y ((1 : Int))))))) none) (some (Sum.inr (Sum.inl PUnit.unit)))) ((0 : Int))) (P.either (fun (z : PUnit) => some ((0 : Int))) fun (r : Int) => some r)
theorem cmp_Or_int_eq (k : Nat) (x : (Ty.D (.slice (.int .i64)))) : evFn (EN k []) 6 Tryd.f41 [(3, ⟨[.var 8 (.d (.int .i64))], [], (some (0, []))⟩)] (.slice (.int .i64)) (.int .i64) x = cmp_Or_int k x := by kernel_rfl
theorem cmp_Or_int_spec (k : Nat) : SpecOk Tryd.prog GG 41 ⟨(.slice (.int .i64)), (.int .i64), cmp_Or_int k⟩ :=
  fn_spec (envOk (E := EN k []) tabOk (.nil) codesOk mixedOk ggKeep (hi := inplOk)) f41_at (fun x => (cmp_Or_int_eq k x).symm)
noncomputable def cmp_isNaN_int : (k : Nat) → (Ty.D (.int .i64)) → Option (Ty.D .bool) := fun (k : Nat) (x : (Ty.int IntKind.i64).D) => some (P.not (P.ieq x x))
theorem cmp_isNaN_int_eq (k : Nat) (x : (Ty.D (.int .i64))) : evFn (EN k []) 6 Tryd.f62 [] (.int .i64) .bool x = cmp_isNaN_int k x := by kernel_rfl
theorem cmp_isNaN_int_spec (k : Nat) : SpecOk Tryd.prog GG 62 ⟨(.int .i64), .bool, cmp_isNaN_int k⟩ :=
  fn_spec (envOk (E := EN k []) tabOk (.nil) codesOk mixedOk ggKeep (hi := inplOk)) f62_at (fun x => (cmp_isNaN_int_eq k x).symm)
noncomputable def cmp_Compare_int : (k : Nat) → (Ty.D (.pair (.int .i64) (.int .i64))) → Option (Ty.D (.int .i64)) := fun (k : Nat) (x : ((Ty.int IntKind.i64).pair (Ty.int IntKind.i64)).D) => P.bind (cmp_isNaN_int k x.fst) fun (r : Bool) => P.bind (cmp_isNaN_int k x.snd) fun (r_1 : Bool) => P.cond r (P.cond r_1 (some ((0 : Int))) (some ((-1 : Int)))) (P.cond r_1 (some ((1 : Int))) (P.cond (P.ilt x.fst x.snd) (some ((-1 : Int))) (P.cond (P.ilt x.snd x.fst) (some ((1 : Int))) (some ((0 : Int))))))
theorem cmp_Compare_int_eq (k : Nat) (x : (Ty.D (.pair (.int .i64) (.int .i64)))) : evFn (EN k [(62, ⟨(.int .i64), .bool, cmp_isNaN_int k⟩)]) 6 Tryd.f42 [] (.pair (.int .i64) (.int .i64)) (.int .i64) x = cmp_Compare_int k x := by kernel_rfl
theorem cmp_Compare_int_spec (k : Nat) : SpecOk Tryd.prog GG 42 ⟨(.pair (.int .i64) (.int .i64)), (.int .i64), cmp_Compare_int k⟩ :=
  fn_spec (envOk (E := EN k [(62, ⟨(.int .i64), .bool, cmp_isNaN_int k⟩)]) tabOk (.cons (cmp_isNaN_int_spec k) f62_at f62_ok <| .nil) codesOk mixedOk ggKeep (hi := inplOk)) f42_at (fun x => (cmp_Compare_int_eq k x).symm)
noncomputable def atoms_Compare : (k : Nat) → (Ty.D (.pair T_api_Atom T_api_Atom)) → Option (Ty.D (.int .i64)) := fun (k : Nat) (x : (T_api_Atom.pair T_api_Atom).D) => P.bind (cmp_Compare_int k (x.fst.fst, x.snd.fst)) fun (r : Int) => P.bind (cmp_Compare_int k (x.fst.snd, x.snd.snd)) fun (r_1 : Int) => P.bind (cmp_Or_int k [r, r_1]) fun (r : Int) => some r
theorem atoms_Compare_eq (k : Nat) (x : (Ty.D (.pair T_api_Atom T_api_Atom))) : evFn (EN k [(41, ⟨(.slice (.int .i64)), (.int .i64), cmp_Or_int k⟩), (42, ⟨(.pair (.int .i64) (.int .i64)), (.int .i64), cmp_Compare_int k⟩)]) 6 Tryd.f29 [] (.pair T_api_Atom T_api_Atom) (.int .i64) x = atoms_Compare k x := by kernel_rfl
theorem atoms_Compare_spec (k : Nat) : SpecOk Tryd.prog GG 29 ⟨(.pair T_api_Atom T_api_Atom), (.int .i64), atoms_Compare k⟩ :=
  fn_spec (envOk (E := EN k [(41, ⟨(.slice (.int .i64)), (.int .i64), cmp_Or_int k⟩), (42, ⟨(.pair (.int .i64) (.int .i64)), (.int .i64), cmp_Compare_int k⟩)]) tabOk (.cons (cmp_Or_int_spec k) f41_at f41_ok <| .cons (cmp_Compare_int_spec k) f42_at f42_ok <| .nil) codesOk mixedOk ggKeep (hi := inplOk)) f29_at (fun x => (atoms_Compare_eq k x).symm)
noncomputable def atoms_right : (k : Nat) → (Ty.D T_api_Atom) → Option (Ty.D .bool) := fun (k : Nat) (x : T_api_Atom.D) => P.cond (P.ieq x.fst ((3 : Int))) (some (P.ile ((0 : Int)) x.snd)) (P.cond (P.ieq x.fst ((4 : Int))) (some (P.ile ((0 : Int)) x.snd)) (P.cond (P.ieq x.fst ((5 : Int))) (some (P.ile ((0 : Int)) x.snd)) (P.cond (P.ieq x.fst ((0 : Int))) (some (P.ieq x.snd ((0 : Int)))) (P.cond (P.ieq x.fst ((1 : Int))) (some (P.ieq x.snd ((0 : Int)))) (P.cond (P.ieq x.fst ((2 : Int))) (some (P.ieq x.snd ((0 : Int)))) (P.cond (P.ieq x.fst ((6 : Int))) (some (P.ieq x.snd ((0 : Int)))) (some false)))))))
theorem atoms_right_eq (k : Nat) (x : (Ty.D T_api_Atom)) : evFn (EN k []) 6 Tryd.f27 [] T_api_Atom .bool x = atoms_right k x := by kernel_rfl
theorem atoms_right_spec (k : Nat) : SpecOk Tryd.prog GG 27 ⟨T_api_Atom, .bool, atoms_right k⟩ :=
  fn_spec (envOk (E := EN k []) tabOk (.nil) codesOk mixedOk ggKeep (hi := inplOk)) f27_at (fun x => (atoms_right_eq k x).symm)
noncomputable def atoms_Norm_1 : (k : Nat) → (Ty.D T_api_Atom) → Option (Ty.D .bool) := fun (k : Nat) (x : T_api_Atom.D) => P.bind (atoms_right k x) fun (r : Bool) => some (P.not r)
theorem atoms_Norm_1_eq (k : Nat) (x : (Ty.D T_api_Atom)) : evFn (EN k [(27, ⟨T_api_Atom, .bool, atoms_right k⟩)]) 6 Tryd.f26 [] T_api_Atom .bool x = atoms_Norm_1 k x := by kernel_rfl
theorem atoms_Norm_1_spec (k : Nat) : SpecOk Tryd.prog GG 26 ⟨T_api_Atom, .bool, atoms_Norm_1 k⟩ :=
  fn_spec (envOk (E := EN k [(27, ⟨T_api_Atom, .bool, atoms_right k⟩)]) tabOk (.cons (atoms_right_spec k) f27_at f27_ok <| .nil) codesOk mixedOk ggKeep (hi := inplOk)) f26_at (fun x => (atoms_Norm_1_eq k x).symm)
noncomputable def atoms_Norm : (k : Nat) → (Ty.D (.slice T_api_Atom)) → Option (Ty.D (.slice T_api_Atom)) := fun (k : Nat) (x : T_api_Atom.slice.D) => P.cond (P.ilt ((0 : Int)) (P.len x)) (P.cond (P.not true) (P.bind (P.iter k (fun (y : Int) => P.cond (P.ilt y ((0 : Int))) none (some (Sum.inr (Sum.inl PUnit.unit)))) ((0 : Int))) (P.either (fun (z : PUnit) => P.cond (P.ieq ((-1 : Int)) ((-1 : Int))) (P.bind (sortF []) fun (x : List (Int × Int)) => P.cond (P.ilt ((0 : Int)) ((2 : Int))) (some []) (P.bind (P.iter k (fun (y : Int × List (Int × Int)) => P.cond (P.ilt y.fst ((0 : Int))) none (some (Sum.inr (Sum.inl [])))) ((1 : Int), [])) (P.either (fun (z : List (Int × Int)) => some []) fun (r : List (Int × Int)) => some r))) (P.bind (P.iter k (fun (y : Int × Int × List (Int × Int)) => P.cond (P.ilt y.snd.fst ((0 : Int))) none (some (Sum.inr (Sum.inl (y.fst, []))))) ((-1 : Int), P.wrap IntKind.i64 (P.add ((-1 : Int)) ((1 : Int))), [])) (P.either (fun (z : Int × List (Int × Int)) => P.cond (P.cut z.fst ((0 : Int)) ((0 : Int))) (P.cond (P.cut ((0 : Int)) z.fst ((0 : Int))) (P.bind (sortF []) fun (x : List (Int × Int)) => P.cond (P.ilt ((0 : Int)) ((2 : Int))) (some []) (P.bind (P.iter k (fun (y : Int × List (Int × Int)) => P.cond (P.ilt y.fst ((0 : Int))) none (some (Sum.inr (Sum.inl [])))) ((1 : Int), [])) (P.either (fun (z : List (Int × Int)) => some []) fun (r : List (Int × Int)) => some r))) none) none) fun (r : List (Int × Int)) => some r))) fun (r : List (Int × Int)) => some r)) (P.cond (P.room (P.add (P.len (P.nil (Int × Int))) (P.len x)) 16) (P.bind (P.iter k (fun (y : Int) => P.cond (P.ilt y (P.len (P.app [] x))) (P.cond (P.inb y (P.len (P.app [] x))) (P.bind (atoms_Norm_1 k (P.get (P.app [] x) y ((0 : Int), (0 : Int)))) fun (r : Bool) => P.cond r (P.map (fun (r : List (Int × Int)) => Sum.inr (Sum.inr r)) (P.cond (P.ieq y ((-1 : Int))) (P.bind (sortF (P.app [] x)) fun (ys : List (Int × Int)) => P.cond (P.ilt (P.len ys) ((2 : Int))) (some ys) (P.bind (P.iter k (fun (y : Int × List (Int × Int)) => P.cond (P.ilt y.fst (P.len y.snd)) (P.cond (P.inb y.fst (P.len y.snd)) (P.cond (P.inb (P.wrap IntKind.i64 (P.sub y.fst ((1 : Int)))) (P.len y.snd)) (P.cond (P.and (P.ieq (P.get y.snd y.fst ((0 : Int), (0 : Int))).fst (P.get y.snd (P.wrap IntKind.i64 (P.sub y.fst ((1 : Int)))) ((0 : Int), (0 : Int))).fst) (P.ieq (P.get y.snd y.fst ((0 : Int), (0 : Int))).snd (P.get y.snd (P.wrap IntKind.i64 (P.sub y.fst ((1 : Int)))) ((0 : Int), (0 : Int))).snd)) (P.cond (P.cut y.fst (P.len y.snd) (P.len y.snd)) (P.bind (P.iter k (fun (y_1 : Int × Int × List (Int × Int)) => P.cond (P.ilt y_1.snd.fst (P.sub (P.len y.snd) y.fst)) (P.cond (P.inb y_1.snd.fst (P.sub (P.len y.snd) y.fst)) (P.cond (P.inb (P.wrap IntKind.i64 (P.sub y_1.snd.fst ((1 : Int)))) (P.sub (P.len y.snd) y.fst)) (P.cond (P.not (P.and (P.ieq (P.get y_1.snd.snd (P.add y.fst y_1.snd.fst) ((0 : Int), (0 : Int))).fst (P.get y_1.snd.snd (P.add y.fst (P.wrap IntKind.i64 (P.sub y_1.snd.fst ((1 : Int))))) ((0 : Int), (0 : Int))).fst) (P.ieq (P.get y_1.snd.snd (P.add y.fst y_1.snd.fst) ((0 : Int), (0 : Int))).snd (P.get y_1.snd.snd (P.add y.fst (P.wrap IntKind.i64 (P.sub y_1.snd.fst ((1 : Int))))) ((0 : Int), (0 : Int))).snd))) (P.cond (P.inb y_1.snd.fst (P.sub (P.len y.snd) y.fst)) (P.cond (P.inb y_1.fst (P.len y_1.snd.snd)) (some (Sum.inl (P.wrap IntKind.i64 (P.add y_1.fst ((1 : Int))), P.wrap IntKind.i64 (P.add y_1.snd.fst ((1 : Int))), P.set y_1.snd.snd y_1.fst (P.get y_1.snd.snd (P.add y.fst y_1.snd.fst) ((0 : Int), (0 : Int)))))) none) none) (some (Sum.inl (y_1.fst, P.wrap IntKind.i64 (P.add y_1.snd.fst ((1 : Int))), y_1.snd.snd)))) none) none) (some (Sum.inr (Sum.inl (y_1.fst, y_1.snd.snd))))) (y.fst, (1 : Int), y.snd)) (P.either (fun (z : Int × List (Int × Int)) => P.cond (P.cut z.fst (P.len z.snd) (P.len z.snd)) (P.cond (P.cut ((0 : Int)) z.fst (P.len (P.fill z.snd z.fst (P.sub (P.len z.snd) z.fst) ((0 : Int), (0 : Int))))) (some (Sum.inr (Sum.inr (P.sub_ (P.fill z.snd z.fst (P.sub (P.len z.snd) z.fst) ((0 : Int), (0 : Int))) ((0 : Int)) z.fst)))) none) none) fun (r : Int × List (Int × Int) ⊕ List (Int × Int) ⊕ List (Int × Int)) => some r)) none) (some (Sum.inl (P.wrap IntKind.i64 (P.add y.fst ((1 : Int))), y.snd)))) none) none) (some (Sum.inr (Sum.inl y.snd)))) ((1 : Int), ys)) (P.either (fun (z : List (Int × Int)) => some z) fun (r : List (Int × Int)) => some r))) (P.bind (P.iter k (fun (y : Int × Int × List (Int × Int)) => P.cond (P.ilt y.snd.fst (P.len y.snd.snd)) (P.cond (P.inb y.snd.fst (P.len y.snd.snd)) (P.bind (atoms_Norm_1 k (P.get y.snd.snd y.snd.fst ((0 : Int), (0 : Int)))) fun (r : Bool) => P.cond (P.not r) (P.cond (P.inb y.fst (P.len y.snd.snd)) (some (Sum.inl (P.wrap IntKind.i64 (P.add y.fst ((1 : Int))), P.wrap IntKind.i64 (P.add y.snd.fst ((1 : Int))), P.set y.snd.snd y.fst (P.get y.snd.snd y.snd.fst ((0 : Int), (0 : Int)))))) none) (some (Sum.inl (y.fst, P.wrap IntKind.i64 (P.add y.snd.fst ((1 : Int))), y.snd.snd)))) none) (some (Sum.inr (Sum.inl (y.fst, y.snd.snd))))) (y, P.wrap IntKind.i64 (P.add y ((1 : Int))), P.app [] x)) (P.either (fun (z : Int × List (Int × Int)) => P.cond (P.cut z.fst (P.len z.snd) (P.len z.snd)) (P.cond (P.cut ((0 : Int)) z.fst (P.len (P.fill z.snd z.fst (P.sub (P.len z.snd) z.fst) ((0 : Int), (0 : Int))))) (P.bind (sortF (P.sub_ (P.fill z.snd z.fst (P.sub (P.len z.snd) z.fst) ((0 : Int), (0 : Int))) ((0 : Int)) z.fst)) fun (ys : List (Int × Int)) => P.cond (P.ilt (P.len ys) ((2 : Int))) (some ys) (P.bind (P.iter k (fun (y : Int × List (Int × Int)) => P.cond (P.ilt y.fst (P.len y.snd)) (P.cond (P.inb y.fst (P.len y.snd)) (P.cond (P.inb (P.wrap IntKind.i64 (P.sub y.fst ((1 : Int)))) (P.len y.snd)) (P.cond (P.and (P.ieq (P.get y.snd y.fst ((0 : Int), (0 : Int))).fst (P.get y.snd (P.wrap IntKind.i64 (P.sub y.fst ((1 : Int)))) ((0 : Int), (0 : Int))).fst) (P.ieq (P.get y.snd y.fst ((0 : Int), (0 : Int))).snd (P.get y.snd (P.wrap IntKind.i64 (P.sub y.fst ((1 : Int)))) ((0 : Int), (0 : Int))).snd)) (P.cond (P.cut y.fst (P.len y.snd) (P.len y.snd)) (P.bind (P.iter k (fun (y_1 : Int × Int × List (Int × Int)) => P.cond (P.ilt y_1.snd.fst (P.sub (P.len y.snd) y.fst)) (P.cond (P.inb y_1.snd.fst (P.sub (P.len y.snd) y.fst)) (P.cond (P.inb (P.wrap IntKind.i64 (P.sub y_1.snd.fst ((1 : Int)))) (P.sub (P.len y.snd) y.fst)) (P.cond (P.not (P.and (P.ieq (P.get y_1.snd.snd (P.add y.fst y_1.snd.fst) ((0 : Int), (0 : Int))).fst (P.get y_1.snd.snd (P.add y.fst (P.wrap IntKind.i64 (P.sub y_1.snd.fst ((1 : Int))))) ((0 : Int), (0 : Int))).fst) (P.ieq (P.get y_1.snd.snd (P.add y.fst y_1.snd.fst) ((0 : Int), (0 : Int))).snd (P.get y_1.snd.snd (P.add y.fst (P.wrap IntKind.i64 (P.sub y_1.snd.fst ((1 : Int))))) ((0 : Int), (0 : Int))).snd))) (P.cond (P.inb y_1.snd.fst (P.sub (P.len y.snd) y.fst)) (P.cond (P.inb y_1.fst (P.len y_1.snd.snd)) (some (Sum.inl (P.wrap IntKind.i64 (P.add y_1.fst ((1 : Int))), P.wrap IntKind.i64 (P.add y_1.snd.fst ((1 : Int))), P.set y_1.snd.snd y_1.fst (P.get y_1.snd.snd (P.add y.fst y_1.snd.fst) ((0 : Int), (0 : Int)))))) none) none) (some (Sum.inl (y_1.fst, P.wrap IntKind.i64 (P.add y_1.snd.fst ((1 : Int))), y_1.snd.snd)))) none) none) (some (Sum.inr (Sum.inl (y_1.fst, y_1.snd.snd))))) (y.fst, (1 : Int), y.snd)) (P.either (fun (z : Int × List (Int × Int)) => P.cond (P.cut z.fst (P.len z.snd) (P.len z.snd)) (P.cond (P.cut ((0 : Int)) z.fst (P.len (P.fill z.snd z.fst (P.sub (P.len z.snd) z.fst) ((0 : Int), (0 : Int))))) (some (Sum.inr (Sum.inr (P.sub_ (P.fill z.snd z.fst (P.sub (P.len z.snd) z.fst) ((0 : Int), (0 : Int))) ((0 : Int)) z.fst)))) none) none) fun (r : Int × List (Int × Int) ⊕ List (Int × Int) ⊕ List (Int × Int)) => some r)) none) (some (Sum.inl (P.wrap IntKind.i64 (P.add y.fst ((1 : Int))), y.snd)))) none) none) (some (Sum.inr (Sum.inl y.snd)))) ((1 : Int), ys)) (P.either (fun (z : List (Int × Int)) => some z) fun (r : List (Int × Int)) => some r))) none) none) fun (r : List (Int × Int)) => some r)))) (some (Sum.inl (P.wrap IntKind.i64 (P.add y ((1 : Int))))))) none) (some (Sum.inr (Sum.inl PUnit.unit)))) ((0 : Int))) (P.either (fun (z : PUnit) => P.cond (P.ieq ((-1 : Int)) ((-1 : Int))) (P.bind (sortF (P.app [] x)) fun (ys : List (Int × Int)) => P.cond (P.ilt (P.len ys) ((2 : Int))) (some ys) (P.bind (P.iter k (fun (y : Int × List (Int × Int)) => P.cond (P.ilt y.fst (P.len y.snd)) (P.cond (P.inb y.fst (P.len y.snd)) (P.cond (P.inb (P.wrap IntKind.i64 (P.sub y.fst ((1 : Int)))) (P.len y.snd)) (P.cond (P.and (P.ieq (P.get y.snd y.fst ((0 : Int), (0 : Int))).fst (P.get y.snd (P.wrap IntKind.i64 (P.sub y.fst ((1 : Int)))) ((0 : Int), (0 : Int))).fst) (P.ieq (P.get y.snd y.fst ((0 : Int), (0 : Int))).snd (P.get y.snd (P.wrap IntKind.i64 (P.sub y.fst ((1 : Int)))) ((0 : Int), (0 : Int))).snd)) (P.cond (P.cut y.fst (P.len y.snd) (P.len y.snd)) (P.bind (P.iter k (fun (y_1 : Int × Int × List (Int × Int)) => P.cond (P.ilt y_1.snd.fst (P.sub (P.len y.snd) y.fst)) (P.cond (P.inb y_1.snd.fst (P.sub (P.len y.snd) y.fst)) (P.cond (P.inb (P.wrap IntKind.i64 (P.sub y_1.snd.fst ((1 : Int)))) (P.sub (P.len y.snd) y.fst)) (P.cond (P.not (P.and (P.ieq (P.get y_1.snd.snd (P.add y.fst y_1.snd.fst) ((0 : Int), (0 : Int))).fst (P.get y_1.snd.snd (P.add y.fst (P.wrap IntKind.i64 (P.sub y_1.snd.fst ((1 : Int))))) ((0 : Int), (0 : Int))).fst) (P.ieq (P.get y_1.snd.snd (P.add y.fst y_1.snd.fst) ((0 : Int), (0 : Int))).snd (P.get y_1.snd.snd (P.add y.fst (P.wrap IntKind.i64 (P.sub y_1.snd.fst ((1 : Int))))) ((0 : Int), (0 : Int))).snd))) (P.cond (P.inb y_1.snd.fst (P.sub (P.len y.snd) y.fst)) (P.cond (P.inb y_1.fst (P.len y_1.snd.snd)) (some (Sum.inl (P.wrap IntKind.i64 (P.add y_1.fst ((1 : Int))), P.wrap IntKind.i64 (P.add y_1.snd.fst ((1 : Int))), P.set y_1.snd.snd y_1.fst (P.get y_1.snd.snd (P.add y.fst y_1.snd.fst) ((0 : Int), (0 : Int)))))) none) none) (some (Sum.inl (y_1.fst, P.wrap IntKind.i64 (P.add y_1.snd.fst ((1 : Int))), y_1.snd.snd)))) none) none) (some (Sum.inr (Sum.inl (y_1.fst, y_1.snd.snd))))) (y.fst, (1 : Int), y.snd)) (P.either (fun (z : Int × List (Int × Int)) => P.cond (P.cut z.fst (P.len z.snd) (P.len z.snd)) (P.cond (P.cut ((0 : Int)) z.fst (P.len (P.fill z.snd z.fst (P.sub (P.len z.snd) z.fst) ((0 : Int), (0 : Int))))) (some (Sum.inr (Sum.inr (P.sub_ (P.fill z.snd z.fst (P.sub (P.len z.snd) z.fst) ((0 : Int), (0 : Int))) ((0 : Int)) z.fst)))) none) none) fun (r : Int × List (Int × Int) ⊕ List (Int × Int) ⊕ List (Int × Int)) => some r)) none) (some (Sum.inl (P.wrap IntKind.i64 (P.add y.fst ((1 : Int))), y.snd)))) none) none) (some (Sum.inr (Sum.inl y.snd)))) ((1 : Int), ys)) (P.either (fun (z : List (Int × Int)) => some z) fun (r : List (Int × Int)) => some r))) (P.bind (P.iter k (fun (y : Int × Int × List (Int × Int)) => P.cond (P.ilt y.snd.fst (P.len y.snd.snd)) (P.cond (P.inb y.snd.fst (P.len y.snd.snd)) (P.bind (atoms_Norm_1 k (P.get y.snd.snd y.snd.fst ((0 : Int), (0 : Int)))) fun (r : Bool) => P.cond (P.not r) (P.cond (P.inb y.fst (P.len y.snd.snd)) (some (Sum.inl (P.wrap IntKind.i64 (P.add y.fst ((1 : Int))), P.wrap IntKind.i64 (P.add y.snd.fst ((1 : Int))), P.set y.snd.snd y.fst (P.get y.snd.snd y.snd.fst ((0 : Int), (0 : Int)))))) none) (some (Sum.inl (y.fst, P.wrap IntKind.i64 (P.add y.snd.fst ((1 : Int))), y.snd.snd)))) none) (some (Sum.inr (Sum.inl (y.fst, y.snd.snd))))) ((-1 : Int), P.wrap IntKind.i64 (P.add ((-1 : Int)) ((1 : Int))), P.app [] x)) (P.either (fun (z : Int × List (Int × Int)) => P.cond (P.cut z.fst (P.len z.snd) (P.len z.snd)) (P.cond (P.cut ((0 : Int)) z.fst (P.len (P.fill z.snd z.fst (P.sub (P.len z.snd) z.fst) ((0 : Int), (0 : Int))))) (P.bind (sortF (P.sub_ (P.fill z.snd z.fst (P.sub (P.len z.snd) z.fst) ((0 : Int), (0 : Int))) ((0 : Int)) z.fst)) fun (ys : List (Int × Int)) => P.cond (P.ilt (P.len ys) ((2 : Int))) (some ys) (P.bind (P.iter k (fun (y : Int × List (Int × Int)) => P.cond (P.ilt y.fst (P.len y.snd)) (P.cond (P.inb y.fst (P.len y.snd)) (P.cond (P.inb (P.wrap IntKind.i64 (P.sub y.fst ((1 : Int)))) (P.len y.snd)) (P.cond (P.and (P.ieq (P.get y.snd y.fst ((0 : Int), (0 : Int))).fst (P.get y.snd (P.wrap IntKind.i64 (P.sub y.fst ((1 : Int)))) ((0 : Int), (0 : Int))).fst) (P.ieq (P.get y.snd y.fst ((0 : Int), (0 : Int))).snd (P.get y.snd (P.wrap IntKind.i64 (P.sub y.fst ((1 : Int)))) ((0 : Int), (0 : Int))).snd)) (P.cond (P.cut y.fst (P.len y.snd) (P.len y.snd)) (P.bind (P.iter k (fun (y_1 : Int × Int × List (Int × Int)) => P.cond (P.ilt y_1.snd.fst (P.sub (P.len y.snd) y.fst)) (P.cond (P.inb y_1.snd.fst (P.sub (P.len y.snd) y.fst)) (P.cond (P.inb (P.wrap IntKind.i64 (P.sub y_1.snd.fst ((1 : Int)))) (P.sub (P.len y.snd) y.fst)) (P.cond (P.not (P.and (P.ieq (P.get y_1.snd.snd (P.add y.fst y_1.snd.fst) ((0 : Int), (0 : Int))).fst (P.get y_1.snd.snd (P.add y.fst (P.wrap IntKind.i64 (P.sub y_1.snd.fst ((1 : Int))))) ((0 : Int), (0 : Int))).fst) (P.ieq (P.get y_1.snd.snd (P.add y.fst y_1.snd.fst) ((0 : Int), (0 : Int))).snd (P.get y_1.snd.snd (P.add y.fst (P.wrap IntKind.i64 (P.sub y_1.snd.fst ((1 : Int))))) ((0 : Int), (0 : Int))).snd))) (P.cond (P.inb y_1.snd.fst (P.sub (P.len y.snd) y.fst)) (P.cond (P.inb y_1.fst (P.len y_1.snd.snd)) (some (Sum.inl (P.wrap IntKind.i64 (P.add y_1.fst ((1 : Int))), P.wrap IntKind.i64 (P.add y_1.snd.fst ((1 : Int))), P.set y_1.snd.snd y_1.fst (P.get y_1.snd.snd (P.add y.fst y_1.snd.fst) ((0 : Int), (0 : Int)))))) none) none) (some (Sum.inl (y_1.fst, P.wrap IntKind.i64 (P.add y_1.snd.fst ((1 : Int))), y_1.snd.snd)))) none) none) (some (Sum.inr (Sum.inl (y_1.fst, y_1.snd.snd))))) (y.fst, (1 : Int), y.snd)) (P.either (fun (z : Int × List (Int × Int)) => P.cond (P.cut z.fst (P.len z.snd) (P.len z.snd)) (P.cond (P.cut ((0 : Int)) z.fst (P.len (P.fill z.snd z.fst (P.sub (P.len z.snd) z.fst) ((0 : Int), (0 : Int))))) (some (Sum.inr (Sum.inr (P.sub_ (P.fill z.snd z.fst (P.sub (P.len z.snd) z.fst) ((0 : Int), (0 : Int))) ((0 : Int)) z.fst)))) none) none) fun (r : Int × List (Int × Int) ⊕ List (Int × Int) ⊕ List (Int × Int)) => some r)) none) (some (Sum.inl (P.wrap IntKind.i64 (P.add y.fst ((1 : Int))), y.snd)))) none) none) (some (Sum.inr (Sum.inl y.snd)))) ((1 : Int), ys)) (P.either (fun (z : List (Int × Int)) => some z) fun (r : List (Int × Int)) => some r))) none) none) fun (r : List (Int × Int)) => some r))) fun (r : List (Int × Int)) => some r)) none)) (P.amb (P.bind (P.iter k (fun (y : Int) => P.cond (P.ilt y ((0 : Int))) none (some (Sum.inr (Sum.inl PUnit.unit)))) ((0 : Int))) (P.either (fun (z : PUnit) => P.cond (P.ieq ((-1 : Int)) ((-1 : Int))) (P.bind (sortF []) fun (x : List (Int × Int)) => P.cond (P.ilt ((0 : Int)) ((2 : Int))) (some []) (P.bind (P.iter k (fun (y : Int × List (Int × Int)) => P.cond (P.ilt y.fst ((0 : Int))) none (some (Sum.inr (Sum.inl [])))) ((1 : Int), [])) (P.either (fun (z : List (Int × Int)) => some []) fun (r : List (Int × Int)) => some r))) (P.bind (P.iter k (fun (y : Int × Int × List (Int × Int)) => P.cond (P.ilt y.snd.fst ((0 : Int))) none (some (Sum.inr (Sum.inl (y.fst, []))))) ((-1 : Int), P.wrap IntKind.i64 (P.add ((-1 : Int)) ((1 : Int))), [])) (P.either (fun (z : Int × List (Int × Int)) => P.cond (P.cut z.fst ((0 : Int)) ((0 : Int))) (P.cond (P.cut ((0 : Int)) z.fst ((0 : Int))) (P.bind (sortF []) fun (x : List (Int × Int)) => P.cond (P.ilt ((0 : Int)) ((2 : Int))) (some []) (P.bind (P.iter k (fun (y : Int × List (Int × Int)) => P.cond (P.ilt y.fst ((0 : Int))) none (some (Sum.inr (Sum.inl [])))) ((1 : Int), [])) (P.either (fun (z : List (Int × Int)) => some []) fun (r : List (Int × Int)) => some r))) none) none) fun (r : List (Int × Int)) => some r))) fun (r : List (Int × Int)) => some r)) (P.cond (P.room (P.add (P.len (P.nil (Int × Int))) (P.len x)) 16) (P.bind (P.iter k (fun (y : Int) => P.cond (P.ilt y (P.len (P.app [] x))) (P.cond (P.inb y (P.len (P.app [] x))) (P.bind (atoms_Norm_1 k (P.get (P.app [] x) y ((0 : Int), (0 : Int)))) fun (r : Bool) => P.cond r (P.map (fun (r : List (Int × Int)) => Sum.inr (Sum.inr r)) (P.cond (P.ieq y ((-1 : Int))) (P.bind (sortF (P.app [] x)) fun (ys : List (Int × Int)) => P.cond (P.ilt (P.len ys) ((2 : Int))) (some ys) (P.bind (P.iter k (fun (y : Int × List (Int × Int)) => P.cond (P.ilt y.fst (P.len y.snd)) (P.cond (P.inb y.fst (P.len y.snd)) (P.cond (P.inb (P.wrap IntKind.i64 (P.sub y.fst ((1 : Int)))) (P.len y.snd)) (P.cond (P.and (P.ieq (P.get y.snd y.fst ((0 : Int), (0 : Int))).fst (P.get y.snd (P.wrap IntKind.i64 (P.sub y.fst ((1 : Int)))) ((0 : Int), (0 : Int))).fst) (P.ieq (P.get y.snd y.fst ((0 : Int), (0 : Int))).snd (P.get y.snd (P.wrap IntKind.i64 (P.sub y.fst ((1 : Int)))) ((0 : Int), (0 : Int))).snd)) (P.cond (P.cut y.fst (P.len y.snd) (P.len y.snd)) (P.bind (P.iter k (fun (y_1 : Int × Int × List (Int × Int)) => P.cond (P.ilt y_1.snd.fst (P.sub (P.len y.snd) y.fst)) (P.cond (P.inb y_1.snd.fst (P.sub (P.len y.snd) y.fst)) (P.cond (P.inb (P.wrap IntKind.i64 (P.sub y_1.snd.fst ((1 : Int)))) (P.sub (P.len y.snd) y.fst)) (P.cond (P.not (P.and (P.ieq (P.get y_1.snd.snd (P.add y.fst y_1.snd.fst) ((0 : Int), (0 : Int))).fst (P.get y_1.snd.snd (P.add y.fst (P.wrap IntKind.i64 (P.sub y_1.snd.fst ((1 : Int))))) ((0 : Int), (0 : Int))).fst) (P.ieq (P.get y_1.snd.snd (P.add y.fst y_1.snd.fst) ((0 : Int), (0 : Int))).snd (P.get y_1.snd.snd (P.add y.fst (P.wrap IntKind.i64 (P.sub y_1.snd.fst ((1 : Int))))) ((0 : Int), (0 : Int))).snd))) (P.cond (P.inb y_1.snd.fst (P.sub (P.len y.snd) y.fst)) (P.cond (P.inb y_1.fst (P.len y_1.snd.snd)) (some (Sum.inl (P.wrap IntKind.i64 (P.add y_1.fst ((1 : Int))), P.wrap IntKind.i64 (P.add y_1.snd.fst ((1 : Int))), P.set y_1.snd.snd y_1.fst (P.get y_1.snd.snd (P.add y.fst y_1.snd.fst) ((0 : Int), (0 : Int)))))) none) none) (some (Sum.inl (y_1.fst, P.wrap IntKind.i64 (P.add y_1.snd.fst ((1 : Int))), y_1.snd.snd)))) none) none) (some (Sum.inr (Sum.inl (y_1.fst, y_1.snd.snd))))) (y.fst, (1 : Int), y.snd)) (P.either (fun (z : Int × List (Int × Int)) => P.cond (P.cut z.fst (P.len z.snd) (P.len z.snd)) (P.cond (P.cut ((0 : Int)) z.fst (P.len (P.fill z.snd z.fst (P.sub (P.len z.snd) z.fst) ((0 : Int), (0 : Int))))) (some (Sum.inr (Sum.inr (P.sub_ (P.fill z.snd z.fst (P.sub (P.len z.snd) z.fst) ((0 : Int), (0 : Int))) ((0 : Int)) z.fst)))) none) none) fun (r : Int × List (Int × Int) ⊕ List (Int × Int) ⊕ List (Int × Int)) => some r)) none) (some (Sum.inl (P.wrap IntKind.i64 (P.add y.fst ((1 : Int))), y.snd)))) none) none) (some (Sum.inr (Sum.inl y.snd)))) ((1 : Int), ys)) (P.either (fun (z : List (Int × Int)) => some z) fun (r : List (Int × Int)) => some r))) (P.bind (P.iter k (fun (y : Int × Int × List (Int × Int)) => P.cond (P.ilt y.snd.fst (P.len y.snd.snd)) (P.cond (P.inb y.snd.fst (P.len y.snd.snd)) (P.bind (atoms_Norm_1 k (P.get y.snd.snd y.snd.fst ((0 : Int), (0 : Int)))) fun (r : Bool) => P.cond (P.not r) (P.cond (P.inb y.fst (P.len y.snd.snd)) (some (Sum.inl (P.wrap IntKind.i64 (P.add y.fst ((1 : Int))), P.wrap IntKind.i64 (P.add y.snd.fst ((1 : Int))), P.set y.snd.snd y.fst (P.get y.snd.snd y.snd.fst ((0 : Int), (0 : Int)))))) none) (some (Sum.inl (y.fst, P.wrap IntKind.i64 (P.add y.snd.fst ((1 : Int))), y.snd.snd)))) none) (some (Sum.inr (Sum.inl (y.fst, y.snd.snd))))) (y, P.wrap IntKind.i64 (P.add y ((1 : Int))), P.app [] x)) (P.either (fun (z : Int × List (Int × Int)) => P.cond (P.cut z.fst (P.len z.snd) (P.len z.snd)) (P.cond (P.cut ((0 : Int)) z.fst (P.len (P.fill z.snd z.fst (P.sub (P.len z.snd) z.fst) ((0 : Int), (0 : Int))))) (P.bind (sortF (P.sub_ (P.fill z.snd z.fst (P.sub (P.len z.snd) z.fst) ((0 : Int), (0 : Int))) ((0 : Int)) z.fst)) fun (ys : List (Int × Int)) => P.cond (P.ilt (P.len ys) ((2 : Int))) (some ys) (P.bind (P.iter k (fun (y : Int × List (Int × Int)) => P.cond (P.ilt y.fst (P.len y.snd)) (P.cond (P.inb y.fst (P.len y.snd)) (P.cond (P.inb (P.wrap IntKind.i64 (P.sub y.fst ((1 : Int)))) (P.len y.snd)) (P.cond (P.and (P.ieq (P.get y.snd y.fst ((0 : Int), (0 : Int))).fst (P.get y.snd (P.wrap IntKind.i64 (P.sub y.fst ((1 : Int)))) ((0 : Int), (0 : Int))).fst) (P.ieq (P.get y.snd y.fst ((0 : Int), (0 : Int))).snd (P.get y.snd (P.wrap IntKind.i64 (P.sub y.fst ((1 : Int)))) ((0 : Int), (0 : Int))).snd)) (P.cond (P.cut y.fst (P.len y.snd) (P.len y.snd)) (P.bind (P.iter k (fun (y_1 : Int × Int × List (Int × Int)) => P.cond (P.ilt y_1.snd.fst (P.sub (P.len y.snd) y.fst)) (P.cond (P.inb y_1.snd.fst (P.sub (P.len y.snd) y.fst)) (P.cond (P.inb (P.wrap IntKind.i64 (P.sub y_1.snd.fst ((1 : Int)))) (P.sub (P.len y.snd) y.fst)) (P.cond (P.not (P.and (P.ieq (P.get y_1.snd.snd (P.add y.fst y_1.snd.fst) ((0 : Int), (0 : Int))).fst (P.get y_1.snd.snd (P.add y.fst (P.wrap IntKind.i64 (P.sub y_1.snd.fst ((1 : Int))))) ((0 : Int), (0 : Int))).fst) (P.ieq (P.get y_1.snd.snd (P.add y.fst y_1.snd.fst) ((0 : Int), (0 : Int))).snd (P.get y_1.snd.snd (P.add y.fst (P.wrap IntKind.i64 (P.sub y_1.snd.fst ((1 : Int))))) ((0 : Int), (0 : Int))).snd))) (P.cond (P.inb y_1.snd.fst (P.sub (P.len y.snd) y.fst)) (P.cond (P.inb y_1.fst (P.len y_1.snd.snd)) (some (Sum.inl (P.wrap IntKind.i64 (P.add y_1.fst ((1 : Int))), P.wrap IntKind.i64 (P.add y_1.snd.fst ((1 : Int))), P.set y_1.snd.snd y_1.fst (P.get y_1.snd.snd (P.add y.fst y_1.snd.fst) ((0 : Int), (0 : Int)))))) none) none) (some (Sum.inl (y_1.fst, P.wrap IntKind.i64 (P.add y_1.snd.fst ((1 : Int))), y_1.snd.snd)))) none) none) (some (Sum.inr (Sum.inl (y_1.fst, y_1.snd.snd))))) (y.fst, (1 : Int), y.snd)) (P.either (fun (z : Int × List (Int × Int)) => P.cond (P.cut z.fst (P.len z.snd) (P.len z.snd)) (P.cond (P.cut ((0 : Int)) z.fst (P.len (P.fill z.snd z.fst (P.sub (P.len z.snd) z.fst) ((0 : Int), (0 : Int))))) (some (Sum.inr (Sum.inr (P.sub_ (P.fill z.snd z.fst (P.sub (P.len z.snd) z.fst) ((0 : Int), (0 : Int))) ((0 : Int)) z.fst)))) none) none) fun (r : Int × List (Int × Int) ⊕ List (Int × Int) ⊕ List (Int × Int)) => some r)) none) (some (Sum.inl (P.wrap IntKind.i64 (P.add y.fst ((1 : Int))), y.snd)))) none) none) (some (Sum.inr (Sum.inl y.snd)))) ((1 : Int), ys)) (P.either (fun (z : List (Int × Int)) => some z) fun (r : List (Int × Int)) => some r))) none) none) fun (r : List (Int × Int)) => some r)))) (some (Sum.inl (P.wrap IntKind.i64 (P.add y ((1 : Int))))))) none) (some (Sum.inr (Sum.inl PUnit.unit)))) ((0 : Int))) (P.either (fun (z : PUnit) => P.cond (P.ieq ((-1 : Int)) ((-1 : Int))) (P.bind (sortF (P.app [] x)) fun (ys : List (Int × Int)) => P.cond (P.ilt (P.len ys) ((2 : Int))) (some ys) (P.bind (P.iter k (fun (y : Int × List (Int × Int)) => P.cond (P.ilt y.fst (P.len y.snd)) (P.cond (P.inb y.fst (P.len y.snd)) (P.cond (P.inb (P.wrap IntKind.i64 (P.sub y.fst ((1 : Int)))) (P.len y.snd)) (P.cond (P.and (P.ieq (P.get y.snd y.fst ((0 : Int), (0 : Int))).fst (P.get y.snd (P.wrap IntKind.i64 (P.sub y.fst ((1 : Int)))) ((0 : Int), (0 : Int))).fst) (P.ieq (P.get y.snd y.fst ((0 : Int), (0 : Int))).snd (P.get y.snd (P.wrap IntKind.i64 (P.sub y.fst ((1 : Int)))) ((0 : Int), (0 : Int))).snd)) (P.cond (P.cut y.fst (P.len y.snd) (P.len y.snd)) (P.bind (P.iter k (fun (y_1 : Int × Int × List (Int × Int)) => P.cond (P.ilt y_1.snd.fst (P.sub (P.len y.snd) y.fst)) (P.cond (P.inb y_1.snd.fst (P.sub (P.len y.snd) y.fst)) (P.cond (P.inb (P.wrap IntKind.i64 (P.sub y_1.snd.fst ((1 : Int)))) (P.sub (P.len y.snd) y.fst)) (P.cond (P.not (P.and (P.ieq (P.get y_1.snd.snd (P.add y.fst y_1.snd.fst) ((0 : Int), (0 : Int))).fst (P.get y_1.snd.snd (P.add y.fst (P.wrap IntKind.i64 (P.sub y_1.snd.fst ((1 : Int))))) ((0 : Int), (0 : Int))).fst) (P.ieq (P.get y_1.snd.snd (P.add y.fst y_1.snd.fst) ((0 : Int), (0 : Int))).snd (P.get y_1.snd.snd (P.add y.fst (P.wrap IntKind.i64 (P.sub y_1.snd.fst ((1 : Int))))) ((0 : Int), (0 : Int))).snd))) (P.cond (P.inb y_1.snd.fst (P.sub (P.len y.snd) y.fst)) (P.cond (P.inb y_1.fst (P.len y_1.snd.snd)) (some (Sum.inl (P.wrap IntKind.i64 (P.add y_1.fst ((1 : Int))), P.wrap IntKind.i64 (P.add y_1.snd.fst ((1 : Int))), P.set y_1.snd.snd y_1.fst (P.get y_1.snd.snd (P.add y.fst y_1.snd.fst) ((0 : Int), (0 : Int)))))) none) none) (some (Sum.inl (y_1.fst, P.wrap IntKind.i64 (P.add y_1.snd.fst ((1 : Int))), y_1.snd.snd)))) none) none) (some (Sum.inr (Sum.inl (y_1.fst, y_1.snd.snd))))) (y.fst, (1 : Int), y.snd)) (P.either (fun (z : Int × List (Int × Int)) => P.cond (P.cut z.fst (P.len z.snd) (P.len z.snd)) (P.cond (P.cut ((0 : Int)) z.fst (P.len (P.fill z.snd z.fst (P.sub (P.len z.snd) z.fst) ((0 : Int), (0 : Int))))) (some (Sum.inr (Sum.inr (P.sub_ (P.fill z.snd z.fst (P.sub (P.len z.snd) z.fst) ((0 : Int), (0 : Int))) ((0 : Int)) z.fst)))) none) none) fun (r : Int × List (Int × Int) ⊕ List (Int × Int) ⊕ List (Int × Int)) => some r)) none) (some (Sum.inl (P.wrap IntKind.i64 (P.add y.fst ((1 : Int))), y.snd)))) none) none) (some (Sum.inr (Sum.inl y.snd)))) ((1 : Int), ys)) (P.either (fun (z : List (Int × Int)) => some z) fun (r : List (Int × Int)) => some r))) (P.bind (P.iter k (fun (y : Int × Int × List (Int × Int)) => P.cond (P.ilt y.snd.fst (P.len y.snd.snd)) (P.cond (P.inb y.snd.fst (P.len y.snd.snd)) (P.bind (atoms_Norm_1 k (P.get y.snd.snd y.snd.fst ((0 : Int), (0 : Int)))) fun (r : Bool) => P.cond (P.not r) (P.cond (P.inb y.fst (P.len y.snd.snd)) (some (Sum.inl (P.wrap IntKind.i64 (P.add y.fst ((1 : Int))), P.wrap IntKind.i64 (P.add y.snd.fst ((1 : Int))), P.set y.snd.snd y.fst (P.get y.snd.snd y.snd.fst ((0 : Int), (0 : Int)))))) none) (some (Sum.inl (y.fst, P.wrap IntKind.i64 (P.add y.snd.fst ((1 : Int))), y.snd.snd)))) none) (some (Sum.inr (Sum.inl (y.fst, y.snd.snd))))) ((-1 : Int), P.wrap IntKind.i64 (P.add ((-1 : Int)) ((1 : Int))), P.app [] x)) (P.either (fun (z : Int × List (Int × Int)) => P.cond (P.cut z.fst (P.len z.snd) (P.len z.snd)) (P.cond (P.cut ((0 : Int)) z.fst (P.len (P.fill z.snd z.fst (P.sub (P.len z.snd) z.fst) ((0 : Int), (0 : Int))))) (P.bind (sortF (P.sub_ (P.fill z.snd z.fst (P.sub (P.len z.snd) z.fst) ((0 : Int), (0 : Int))) ((0 : Int)) z.fst)) fun (ys : List (Int × Int)) => P.cond (P.ilt (P.len ys) ((2 : Int))) (some ys) (P.bind (P.iter k (fun (y : Int × List (Int × Int)) => P.cond (P.ilt y.fst (P.len y.snd)) (P.cond (P.inb y.fst (P.len y.snd)) (P.cond (P.inb (P.wrap IntKind.i64 (P.sub y.fst ((1 : Int)))) (P.len y.snd)) (P.cond (P.and (P.ieq (P.get y.snd y.fst ((0 : Int), (0 : Int))).fst (P.get y.snd (P.wrap IntKind.i64 (P.sub y.fst ((1 : Int)))) ((0 : Int), (0 : Int))).fst) (P.ieq (P.get y.snd y.fst ((0 : Int), (0 : Int))).snd (P.get y.snd (P.wrap IntKind.i64 (P.sub y.fst ((1 : Int)))) ((0 : Int), (0 : Int))).snd)) (P.cond (P.cut y.fst (P.len y.snd) (P.len y.snd)) (P.bind (P.iter k (fun (y_1 : Int × Int × List (Int × Int)) => P.cond (P.ilt y_1.snd.fst (P.sub (P.len y.snd) y.fst)) (P.cond (P.inb y_1.snd.fst (P.sub (P.len y.snd) y.fst)) (P.cond (P.inb (P.wrap IntKind.i64 (P.sub y_1.snd.fst ((1 : Int)))) (P.sub (P.len y.snd) y.fst)) (P.cond (P.not (P.and (P.ieq (P.get y_1.snd.snd (P.add y.fst y_1.snd.fst) ((0 : Int), (0 : Int))).fst (P.get y_1.snd.snd (P.add y.fst (P.wrap IntKind.i64 (P.sub y_1.snd.fst ((1 : Int))))) ((0 : Int), (0 : Int))).fst) (P.ieq (P.get y_1.snd.snd (P.add y.fst y_1.snd.fst) ((0 : Int), (0 : Int))).snd (P.get y_1.snd.snd (P.add y.fst (P.wrap IntKind.i64 (P.sub y_1.snd.fst ((1 : Int))))) ((0 : Int), (0 : Int))).snd))) (P.cond (P.inb y_1.snd.fst (P.sub (P.len y.snd) y.fst)) (P.cond (P.inb y_1.fst (P.len y_1.snd.snd)) (some (Sum.inl (P.wrap IntKind.i64 (P.add y_1.fst ((1 : Int))), P.wrap IntKind.i64 (P.add y_1.snd.fst ((1 : Int))), P.set y_1.snd.snd y_1.fst (P.get y_1.snd.snd (P.add y.fst y_1.snd.fst) ((0 : Int), (0 : Int)))))) none) none) (some (Sum.inl (y_1.fst, P.wrap IntKind.i64 (P.add y_1.snd.fst ((1 : Int))), y_1.snd.snd)))) none) none) (some (Sum.inr (Sum.inl (y_1.fst, y_1.snd.snd))))) (y.fst, (1 : Int), y.snd)) (P.either (fun (z : Int × List (Int × Int)) => P.cond (P.cut z.fst (P.len z.snd) (P.len z.snd)) (P.cond (P.cut ((0 : Int)) z.fst (P.len (P.fill z.snd z.fst (P.sub (P.len z.snd) z.fst) ((0 : Int), (0 : Int))))) (some (Sum.inr (Sum.inr (P.sub_ (P.fill z.snd z.fst (P.sub (P.len z.snd) z.fst) ((0 : Int), (0 : Int))) ((0 : Int)) z.fst)))) none) none) fun (r : Int × List (Int × Int) ⊕ List (Int × Int) ⊕ List (Int × Int)) => some r)) none) (some (Sum.inl (P.wrap IntKind.i64 (P.add y.fst ((1 : Int))), y.snd)))) none) none) (some (Sum.inr (Sum.inl y.snd)))) ((1 : Int), ys)) (P.either (fun (z : List (Int × Int)) => some z) fun (r : List (Int × Int)) => some r))) none) none) fun (r : List (Int × Int)) => some r))) fun (r : List (Int × Int)) => some r)) none))
theorem atoms_Norm_eq (k : Nat) (x : (Ty.D (.slice T_api_Atom))) : evFn (EN k [(26, ⟨T_api_Atom, .bool, atoms_Norm_1 k⟩), (29, ⟨(.pair T_api_Atom T_api_Atom), (.int .i64), atoms_Compare k⟩)]) 6 Tryd.f10 [] (.slice T_api_Atom) (.slice T_api_Atom) x = atoms_Norm k x := by kernel_rfl
theorem atoms_Norm_spec (k : Nat) : SpecOk Tryd.prog GG 10 ⟨(.slice T_api_Atom), (.slice T_api_Atom), atoms_Norm k⟩ :=
  fn_spec (envOk (E := EN k [(26, ⟨T_api_Atom, .bool, atoms_Norm_1 k⟩), (29, ⟨(.pair T_api_Atom T_api_Atom), (.int .i64), atoms_Compare k⟩)]) tabOk (.cons (atoms_Norm_1_spec k) f26_at f26_ok <| .cons (atoms_Compare_spec k) f29_at f29_ok <| .nil) codesOk mixedOk ggKeep (hi := inplOk)) f10_at (fun x => (atoms_Norm_eq k x).symm)
noncomputable def slices_Equal_api_Atom_api_Atom : (k : Nat) → (Ty.D (.pair (.slice T_api_Atom) (.slice T_api_Atom))) → Option (Ty.D .bool) := fun (k : Nat) (x : (T_api_Atom.slice.pair T_api_Atom.slice).D) => P.cond (P.not (P.ieq (P.len x.fst) (P.len x.snd))) (some false) (P.bind (P.iter k (fun (y : Int) => P.cond (P.ilt y (P.len x.fst)) (P.cond (P.inb y (P.len x.fst)) (P.cond (P.inb y (P.len x.snd)) (P.cond (P.not (P.and (P.ieq (P.get x.fst y ((0 : Int), (0 : Int))).fst (P.get x.snd y ((0 : Int), (0 : Int))).fst) (P.ieq (P.get x.fst y ((0 : Int), (0 : Int))).snd (P.get x.snd y ((0 : Int), (0 : Int))).snd))) (some (Sum.inr (Sum.inr false))) (some (Sum.inl (P.wrap IntKind.i64 (P.add y ((1 : Int))))))) none) none) (some (Sum.inr (Sum.inl PUnit.unit)))) ((0 : Int))) (P.either (fun (z : PUnit) => some true) fun (r : Bool) => some r))
theorem slices_Equal_api_Atom_api_Atom_eq (k : Nat) (x : (Ty.D (.pair (.slice T_api_Atom) (.slice T_api_Atom)))) : evFn (EN k []) 6 Tryd.f32 [(4, ⟨[.var 13 (.d (.int .i64))], [], (some (0, []))⟩)] (.pair (.slice T_api_Atom) (.slice T_api_Atom)) .bool x = slices_Equal_api_Atom_api_Atom k x := by kernel_rfl
theorem slices_Equal_api_Atom_api_Atom_spec (k : Nat) : SpecOk Tryd.prog GG 32 ⟨(.pair (.slice T_api_Atom) (.slice T_api_Atom)), .bool, slices_Equal_api_Atom_api_Atom k⟩ :=
  fn_spec (envOk (E := EN k []) tabOk (.nil) codesOk mixedOk ggKeep (hi := inplOk)) f32_at (fun x => (slices_Equal_api_Atom_api_Atom_eq k x).symm)
noncomputable def atoms_May : (k : Nat) → (Ty.D (.slice T_api_Atom)) → Option (Ty.D .bool) := fun (k : Nat) (x : T_api_Atom.slice.D) => P.bind (atoms_Norm k x) fun (r : List (Int × Int)) => P.bind (slices_Equal_api_Atom_api_Atom k (x, r)) fun (r : Bool) => some r
theorem atoms_May_eq (k : Nat) (x : (Ty.D (.slice T_api_Atom))) : evFn (EN k [(10, ⟨(.slice T_api_Atom), (.slice T_api_Atom), atoms_Norm k⟩), (32, ⟨(.pair (.slice T_api_Atom) (.slice T_api_Atom)), .bool, slices_Equal_api_Atom_api_Atom k⟩)]) 6 Tryd.f12 [] (.slice T_api_Atom) .bool x = atoms_May k x := by kernel_rfl
theorem atoms_May_spec (k : Nat) : SpecOk Tryd.prog GG 12 ⟨(.slice T_api_Atom), .bool, atoms_May k⟩ :=
  fn_spec (envOk (E := EN k [(10, ⟨(.slice T_api_Atom), (.slice T_api_Atom), atoms_Norm k⟩), (32, ⟨(.pair (.slice T_api_Atom) (.slice T_api_Atom)), .bool, slices_Equal_api_Atom_api_Atom k⟩)]) tabOk (.cons (atoms_Norm_spec k) f10_at f10_ok <| .cons (slices_Equal_api_Atom_api_Atom_spec k) f32_at f32_ok <| .nil) codesOk mixedOk ggKeep (hi := inplOk)) f12_at (fun x => (atoms_May_eq k x).symm)
noncomputable def slices_Concat_api_Atom_api_Atom : (k : Nat) → (Ty.D (.slice (.slice T_api_Atom))) → Option (Ty.D (.slice T_api_Atom)) := fun (k : Nat) (x : T_api_Atom.slice.slice.D) => P.bind (P.iter k (fun (y : Int × Int) => P.cond (P.ilt y.snd (P.len x)) (P.cond (P.inb y.snd (P.len x)) (P.cond (P.ilt (P.wrap IntKind.i64 (P.add y.fst (P.len (P.get x y.snd [])))) ((0 : Int))) none (some (Sum.inl (P.wrap IntKind.i64 (P.add y.fst (P.len (P.get x y.snd []))), P.wrap IntKind.i64 (P.add y.snd ((1 : Int))))))) none) (some (Sum.inr (Sum.inl y.fst)))) ((0 : Int), (0 : Int))) (P.either (fun (z : Int) => P.cond (P.ilt z ((0 : Int))) none (P.cond (P.ilt ((0 : Int)) (P.wrap IntKind.i64 (P.sub z (P.wrap IntKind.i64 (P.sub ((0 : Int)) ((0 : Int))))))) (P.cond (P.cut ((0 : Int)) ((0 : Int)) ((0 : Int))) (P.cond (P.ilt ((0 : Int)) (P.wrap IntKind.i64 (P.sub z (P.wrap IntKind.i64 (P.sub ((0 : Int)) ((0 : Int))))))) (P.cond (P.room (P.wrap IntKind.i64 (P.sub z (P.wrap IntKind.i64 (P.sub ((0 : Int)) ((0 : Int)))))) 16) (P.cond (P.cut ((0 : Int)) ((0 : Int)) (P.len (P.rep (P.wrap IntKind.i64 (P.sub z (P.wrap IntKind.i64 (P.sub ((0 : Int)) ((0 : Int)))))) ((0 : Int), (0 : Int))))) (P.bind (P.iter k (fun (y : List (Int × Int) × Int) => P.cond (P.ilt y.snd (P.len x)) (P.cond (P.inb y.snd (P.len x)) (P.cond (P.room (P.add (P.len y.fst) (P.len (P.get x y.snd []))) 16) (some (Sum.inl (P.app y.fst (P.get x y.snd []), P.wrap IntKind.i64 (P.add y.snd ((1 : Int)))))) none) none) (some (Sum.inr (Sum.inl y.fst)))) (P.sub_ (P.rep (P.wrap IntKind.i64 (P.sub z (P.wrap IntKind.i64 (P.sub ((0 : Int)) ((0 : Int)))))) ((0 : Int), (0 : Int))) ((0 : Int)) ((0 : Int)), (0 : Int))) (P.either (fun (z : List (Int × Int)) => some z) fun (r : List (Int × Int)) => some r)) none) none) none) none) (P.bind (P.iter k (fun (y : List (Int × Int) × Int) => P.cond (P.ilt y.snd (P.len x)) (P.cond (P.inb y.snd (P.len x)) (P.cond (P.room (P.add (P.len y.fst) (P.len (P.get x y.snd []))) 16) (some (Sum.inl (P.app y.fst (P.get x y.snd []), P.wrap IntKind.i64 (P.add y.snd ((1 : Int)))))) none) none) (some (Sum.inr (Sum.inl y.fst)))) ([], (0 : Int))) (P.either (fun (z : List (Int × Int)) => some z) fun (r : List (Int × Int)) => some r)))) fun (r : List (Int × Int)) => some r)
theorem slices_Concat_api_Atom_api_Atom_eq (k : Nat) (x : (Ty.D (.slice (.slice T_api_Atom)))) : evFn (EN k []) 6 Tryd.f33 [(3, ⟨[.var 3 (.d (.int .i64)), .var 11 (.d (.int .i64))], [], (some (0, [.var 3 (.d (.int .i64))]))⟩), (11, ⟨[.var 6 (.o (.st (.pair (.int .i64) (.int .i64)))), .var 27 (.d (.int .i64))], [], (some (2, [.var 6 (.o (.st (.pair (.int .i64) (.int .i64))))]))⟩)] (.slice (.slice T_api_Atom)) (.slice T_api_Atom) x = slices_Concat_api_Atom_api_Atom k x := by kernel_rfl
theorem slices_Concat_api_Atom_api_Atom_spec (k : Nat) : SpecOk Tryd.prog GG 33 ⟨(.slice (.slice T_api_Atom)), (.slice T_api_Atom), slices_Concat_api_Atom_api_Atom k⟩ :=
  fn_spec (envOk (E := EN k []) tabOk (.nil) codesOk mixedOk ggKeep (hi := inplOk)) f33_at (fun x => (slices_Concat_api_Atom_api_Atom_eq k x).symm)
noncomputable def atoms_Union : (k : Nat) → (Ty.D (.pair (.slice T_api_Atom) (.slice T_api_Atom))) → Option (Ty.D (.slice T_api_Atom)) := fun (k : Nat) (x : (T_api_Atom.slice.pair T_api_Atom.slice).D) => P.bind (slices_Concat_api_Atom_api_Atom k [x.fst, x.snd]) fun (r : List (Int × Int)) => P.bind (atoms_Norm k r) fun (r : List (Int × Int)) => some r
theorem atoms_Union_eq (k : Nat) (x : (Ty.D (.pair (.slice T_api_Atom) (.slice T_api_Atom)))) : evFn (EN k [(10, ⟨(.slice T_api_Atom), (.slice T_api_Atom), atoms_Norm k⟩), (33, ⟨(.slice (.slice T_api_Atom)), (.slice T_api_Atom), slices_Concat_api_Atom_api_Atom k⟩)]) 6 Tryd.f14 [] (.pair (.slice T_api_Atom) (.slice T_api_Atom)) (.slice T_api_Atom) x = atoms_Union k x := by kernel_rfl
theorem atoms_Union_spec (k : Nat) : SpecOk Tryd.prog GG 14 ⟨(.pair (.slice T_api_Atom) (.slice T_api_Atom)), (.slice T_api_Atom), atoms_Union k⟩ :=
  fn_spec (envOk (E := EN k [(10, ⟨(.slice T_api_Atom), (.slice T_api_Atom), atoms_Norm k⟩), (33, ⟨(.slice (.slice T_api_Atom)), (.slice T_api_Atom), slices_Concat_api_Atom_api_Atom k⟩)]) tabOk (.cons (atoms_Norm_spec k) f10_at f10_ok <| .cons (slices_Concat_api_Atom_api_Atom_spec k) f33_at f33_ok <| .nil) codesOk mixedOk ggKeep (hi := inplOk)) f14_at (fun x => (atoms_Union_eq k x).symm)
noncomputable def slices_Index_api_Atom_api_Atom : (k : Nat) → (Ty.D (.pair (.slice T_api_Atom) T_api_Atom)) → Option (Ty.D (.int .i64)) := fun (k : Nat) (x : (T_api_Atom.slice.pair T_api_Atom).D) => P.bind (P.iter k (fun (y : Int) => P.cond (P.ilt y (P.len x.fst)) (P.cond (P.inb y (P.len x.fst)) (P.cond (P.and (P.ieq x.snd.fst (P.get x.fst y ((0 : Int), (0 : Int))).fst) (P.ieq x.snd.snd (P.get x.fst y ((0 : Int), (0 : Int))).snd)) (some (Sum.inr (Sum.inr y))) (some (Sum.inl (P.wrap IntKind.i64 (P.add y ((1 : Int))))))) none) (some (Sum.inr (Sum.inl PUnit.unit)))) ((0 : Int))) (P.either (fun (z : PUnit) => some ((-1 : Int))) fun (r : Int) => some r)
theorem slices_Index_api_Atom_api_Atom_eq (k : Nat) (x : (Ty.D (.pair (.slice T_api_Atom) T_api_Atom))) : evFn (EN k []) 6 Tryd.f46 [(2, ⟨[.var 8 (.d (.int .i64))], [], (some (0, []))⟩)] (.pair (.slice T_api_Atom) T_api_Atom) (.int .i64) x = slices_Index_api_Atom_api_Atom k x := by kernel_rfl
theorem slices_Index_api_Atom_api_Atom_spec (k : Nat) : SpecOk Tryd.prog GG 46 ⟨(.pair (.slice T_api_Atom) T_api_Atom), (.int .i64), slices_Index_api_Atom_api_Atom k⟩ :=
  fn_spec (envOk (E := EN k []) tabOk (.nil) codesOk mixedOk ggKeep (hi := inplOk)) f46_at (fun x => (slices_Index_api_Atom_api_Atom_eq k x).symm)
noncomputable def slices_Contains_api_Atom_api_Atom : (k : Nat) → (Ty.D (.pair (.slice T_api_Atom) T_api_Atom)) → Option (Ty.D .bool) := fun (k : Nat) (x : (T_api_Atom.slice.pair T_api_Atom).D) => P.bind (slices_Index_api_Atom_api_Atom k (x.fst, x.snd)) fun (r : Int) => some (P.ile ((0 : Int)) r)
theorem slices_Contains_api_Atom_api_Atom_eq (k : Nat) (x : (Ty.D (.pair (.slice T_api_Atom) T_api_Atom))) : evFn (EN k [(46, ⟨(.pair (.slice T_api_Atom) T_api_Atom), (.int .i64), slices_Index_api_Atom_api_Atom k⟩)]) 6 Tryd.f34 [] (.pair (.slice T_api_Atom) T_api_Atom) .bool x = slices_Contains_api_Atom_api_Atom k x := by kernel_rfl
theorem slices_Contains_api_Atom_api_Atom_spec (k : Nat) : SpecOk Tryd.prog GG 34 ⟨(.pair (.slice T_api_Atom) T_api_Atom), .bool, slices_Contains_api_Atom_api_Atom k⟩ :=
  fn_spec (envOk (E := EN k [(46, ⟨(.pair (.slice T_api_Atom) T_api_Atom), (.int .i64), slices_Index_api_Atom_api_Atom k⟩)]) tabOk (.cons (slices_Index_api_Atom_api_Atom_spec k) f46_at f46_ok <| .nil) codesOk mixedOk ggKeep (hi := inplOk)) f34_at (fun x => (slices_Contains_api_Atom_api_Atom_eq k x).symm)
noncomputable def atoms_Has : (k : Nat) → (Ty.D (.pair (.slice T_api_Atom) T_api_Atom)) → Option (Ty.D .bool) := fun (k : Nat) (x : (T_api_Atom.slice.pair T_api_Atom).D) => P.bind (slices_Contains_api_Atom_api_Atom k (x.fst, x.snd)) fun (r : Bool) => some r
theorem atoms_Has_eq (k : Nat) (x : (Ty.D (.pair (.slice T_api_Atom) T_api_Atom))) : evFn (EN k [(34, ⟨(.pair (.slice T_api_Atom) T_api_Atom), .bool, slices_Contains_api_Atom_api_Atom k⟩)]) 6 Tryd.f18 [] (.pair (.slice T_api_Atom) T_api_Atom) .bool x = atoms_Has k x := by kernel_rfl
theorem atoms_Has_spec (k : Nat) : SpecOk Tryd.prog GG 18 ⟨(.pair (.slice T_api_Atom) T_api_Atom), .bool, atoms_Has k⟩ :=
  fn_spec (envOk (E := EN k [(34, ⟨(.pair (.slice T_api_Atom) T_api_Atom), .bool, slices_Contains_api_Atom_api_Atom k⟩)]) tabOk (.cons (slices_Contains_api_Atom_api_Atom_spec k) f34_at f34_ok <| .nil) codesOk mixedOk ggKeep (hi := inplOk)) f18_at (fun x => (atoms_Has_eq k x).symm)
noncomputable def atoms_Within : (k : Nat) → (Ty.D (.pair (.slice T_api_Atom) (.slice T_api_Atom))) → Option (Ty.D .bool) := fun (k : Nat) (x : (T_api_Atom.slice.pair T_api_Atom.slice).D) => P.bind (P.iter k (fun (y : Int) => P.cond (P.ilt y (P.len x.fst)) (P.cond (P.inb y (P.len x.fst)) (P.bind (atoms_Has k (x.snd, P.get x.fst y ((0 : Int), (0 : Int)))) fun (r : Bool) => P.cond (P.not r) (some (Sum.inr (Sum.inr false))) (some (Sum.inl (P.wrap IntKind.i64 (P.add y ((1 : Int))))))) none) (some (Sum.inr (Sum.inl PUnit.unit)))) ((0 : Int))) (P.either (fun (z : PUnit) => some true) fun (r : Bool) => some r)
theorem atoms_Within_eq (k : Nat) (x : (Ty.D (.pair (.slice T_api_Atom) (.slice T_api_Atom)))) : evFn (EN k [(18, ⟨(.pair (.slice T_api_Atom) T_api_Atom), .bool, atoms_Has k⟩)]) 6 Tryd.f16 [(2, ⟨[.var 9 (.d (.int .i64))], [], (some (0, []))⟩)] (.pair (.slice T_api_Atom) (.slice T_api_Atom)) .bool x = atoms_Within k x := by kernel_rfl
theorem atoms_Within_spec (k : Nat) : SpecOk Tryd.prog GG 16 ⟨(.pair (.slice T_api_Atom) (.slice T_api_Atom)), .bool, atoms_Within k⟩ :=
  fn_spec (envOk (E := EN k [(18, ⟨(.pair (.slice T_api_Atom) T_api_Atom), .bool, atoms_Has k⟩)]) tabOk (.cons (atoms_Has_spec k) f18_at f18_ok <| .nil) codesOk mixedOk ggKeep (hi := inplOk)) f16_at (fun x => (atoms_Within_eq k x).symm)
noncomputable def atoms_Rename : (k : Nat) → (Ty.D (.pair (.slice T_api_Atom) (.int .i64))) → Option (Ty.D (.slice T_api_Atom)) := fun (k : Nat) (x : (T_api_Atom.slice.pair (Ty.int IntKind.i64)).D) => P.cond (P.ilt ((0 : Int)) (P.len x.fst)) (P.cond (P.not true) (P.bind (P.iter k (fun (y : Int × List (Int × Int)) => P.cond (P.ilt y.fst ((0 : Int))) none (some (Sum.inr (Sum.inl [])))) ((0 : Int), [])) (P.either (fun (z : List (Int × Int)) => P.bind (atoms_Norm k []) fun (r : List (Int × Int)) => some r) fun (r : List (Int × Int)) => some r)) (P.cond (P.room (P.add (P.len (P.nil (Int × Int))) (P.len x.fst)) 16) (P.bind (P.iter k (fun (y : Int × List (Int × Int)) => P.cond (P.ilt y.fst (P.len (P.app [] x.fst))) (P.cond (P.inb y.fst (P.len y.snd)) (P.cond (P.and (P.ieq (P.get y.snd y.fst ((0 : Int), (0 : Int))).fst ((4 : Int))) (P.ieq (P.get y.snd y.fst ((0 : Int), (0 : Int))).snd x.snd)) (P.cond (P.inb y.fst (P.len y.snd)) (some (Sum.inl (P.wrap IntKind.i64 (P.add y.fst ((1 : Int))), P.set y.snd y.fst ((5 : Int), (P.get y.snd y.fst ((0 : Int), (0 : Int))).snd)))) none) (some (Sum.inl (P.wrap IntKind.i64 (P.add y.fst ((1 : Int))), y.snd)))) none) (some (Sum.inr (Sum.inl y.snd)))) ((0 : Int), P.app [] x.fst)) (P.either (fun (z : List (Int × Int)) => P.bind (atoms_Norm k z) fun (r : List (Int × Int)) => some r) fun (r : List (Int × Int)) => some r)) none)) (P.amb (P.bind (P.iter k (fun (y : Int × List (Int × Int)) => P.cond (P.ilt y.fst ((0 : Int))) none (some (Sum.inr (Sum.inl [])))) ((0 : Int), [])) (P.either (fun (z : List (Int × Int)) => P.bind (atoms_Norm k []) fun (r : List (Int × Int)) => some r) fun (r : List (Int × Int)) => some r)) (P.cond (P.room (P.add (P.len (P.nil (Int × Int))) (P.len x.fst)) 16) (P.bind (P.iter k (fun (y : Int × List (Int × Int)) => P.cond (P.ilt y.fst (P.len (P.app [] x.fst))) (P.cond (P.inb y.fst (P.len y.snd)) (P.cond (P.and (P.ieq (P.get y.snd y.fst ((0 : Int), (0 : Int))).fst ((4 : Int))) (P.ieq (P.get y.snd y.fst ((0 : Int), (0 : Int))).snd x.snd)) (P.cond (P.inb y.fst (P.len y.snd)) (some (Sum.inl (P.wrap IntKind.i64 (P.add y.fst ((1 : Int))), P.set y.snd y.fst ((5 : Int), (P.get y.snd y.fst ((0 : Int), (0 : Int))).snd)))) none) (some (Sum.inl (P.wrap IntKind.i64 (P.add y.fst ((1 : Int))), y.snd)))) none) (some (Sum.inr (Sum.inl y.snd)))) ((0 : Int), P.app [] x.fst)) (P.either (fun (z : List (Int × Int)) => P.bind (atoms_Norm k z) fun (r : List (Int × Int)) => some r) fun (r : List (Int × Int)) => some r)) none))
theorem atoms_Rename_eq (k : Nat) (x : (Ty.D (.pair (.slice T_api_Atom) (.int .i64)))) : evFn (EN k [(10, ⟨(.slice T_api_Atom), (.slice T_api_Atom), atoms_Norm k⟩)]) 6 Tryd.f20 [(3, ⟨[.var 12 (.d (.int .i64)), .cel 5 [] (.st (.pair (.int .i64) (.int .i64)))], [], (some (0, [.cel 5 [] (.st (.pair (.int .i64) (.int .i64)))]))⟩)] (.pair (.slice T_api_Atom) (.int .i64)) (.slice T_api_Atom) x = atoms_Rename k x := by kernel_rfl
theorem atoms_Rename_spec (k : Nat) : SpecOk Tryd.prog GG 20 ⟨(.pair (.slice T_api_Atom) (.int .i64)), (.slice T_api_Atom), atoms_Rename k⟩ :=
  fn_spec (envOk (E := EN k [(10, ⟨(.slice T_api_Atom), (.slice T_api_Atom), atoms_Norm k⟩)]) tabOk (.cons (atoms_Norm_spec k) f10_at f10_ok <| .nil) codesOk mixedOk ggKeep (hi := inplOk)) f20_at (fun x => (atoms_Rename_eq k x).symm)
noncomputable def atoms_name : (k : Nat) → (Ty.D T_api_Atom) → Option (Ty.D .str) := fun (k : Nat) (x : T_api_Atom.D) => P.cond (P.ieq x.fst ((0 : Int))) (some (ByteArray.mk #[110, 117, 108, 108])) (P.cond (P.ieq x.fst ((1 : Int))) (some (ByteArray.mk #[98, 111, 111, 108])) (P.cond (P.ieq x.fst ((2 : Int))) (some (ByteArray.mk #[110, 117, 109])) (P.cond (P.ieq x.fst ((3 : Int))) (P.bind (strconv_Itoa k x.snd) fun (r : ByteArray) => P.cond (P.sfit (ByteArray.mk #[102, 117, 110]) r) (some (P.scat (ByteArray.mk #[102, 117, 110]) r)) none) (P.cond (P.ieq x.fst ((4 : Int))) (P.bind (strconv_Itoa k x.snd) fun (r : ByteArray) => P.cond (P.sfit (ByteArray.mk #[114, 101, 99]) r) (some (P.scat (ByteArray.mk #[114, 101, 99]) r)) none) (P.cond (P.ieq x.fst ((5 : Int))) (P.bind (strconv_Itoa k x.snd) fun (r : ByteArray) => P.cond (P.sfit (ByteArray.mk #[115, 117, 109]) r) (some (P.scat (ByteArray.mk #[115, 117, 109]) r)) none) (P.cond (P.ieq x.fst ((6 : Int))) (some (ByteArray.mk #[97, 110, 121])) (some (ByteArray.mk #[63]))))))))
theorem atoms_name_eq (k : Nat) (x : (Ty.D T_api_Atom)) : evFn (EN k [(47, ⟨(.int .i64), .str, strconv_Itoa k⟩)]) 6 Tryd.f35 [] T_api_Atom .str x = atoms_name k x := by kernel_rfl
theorem atoms_name_spec (k : Nat) : SpecOk Tryd.prog GG 35 ⟨T_api_Atom, .str, atoms_name k⟩ :=
  fn_spec (envOk (E := EN k [(47, ⟨(.int .i64), .str, strconv_Itoa k⟩)]) tabOk (.cons (strconv_Itoa_spec k) f47_at f47_ok <| .nil) codesOk mixedOk ggKeep (hi := inplOk)) f35_at (fun x => (atoms_name_eq k x).symm)
noncomputable def atoms_Text : (k : Nat) → (Ty.D (.slice T_api_Atom)) → Option (Ty.D .str) := fun (k : Nat) (x : T_api_Atom.slice.D) => P.bind (P.iter k (fun (y : List ByteArray × Int) => P.cond (P.ilt y.snd (P.len x)) (P.cond (P.inb y.snd (P.len x)) (P.bind (atoms_name k (P.get x y.snd ((0 : Int), (0 : Int)))) fun (r : ByteArray) => P.cond (P.room (P.add (P.len y.fst) (P.len [r])) 16) (some (Sum.inl (P.app y.fst [r], P.wrap IntKind.i64 (P.add y.snd ((1 : Int)))))) none) none) (some (Sum.inr (Sum.inl y.fst)))) ([], (0 : Int))) (P.either (fun (z : List ByteArray) => P.bind (strings_Join k (z, (ByteArray.mk #[32]))) fun (r : ByteArray) => some r) fun (r : ByteArray) => some r)
theorem atoms_Text_eq (k : Nat) (x : (Ty.D (.slice T_api_Atom))) : evFn (EN k [(35, ⟨T_api_Atom, .str, atoms_name k⟩), (36, ⟨(.pair (.slice .str) .str), .str, strings_Join k⟩)]) 6 Tryd.f22 [(3, ⟨[.var 3 (.o .str), .var 8 (.d (.int .i64))], [], (some (0, [.var 3 (.o .str)]))⟩)] (.slice T_api_Atom) .str x = atoms_Text k x := by kernel_rfl
theorem atoms_Text_spec (k : Nat) : SpecOk Tryd.prog GG 22 ⟨(.slice T_api_Atom), .str, atoms_Text k⟩ :=
  fn_spec (envOk (E := EN k [(35, ⟨T_api_Atom, .str, atoms_name k⟩), (36, ⟨(.pair (.slice .str) .str), .str, strings_Join k⟩)]) tabOk (.cons (atoms_name_spec k) f35_at f35_ok <| .cons (strings_Join_spec k) f36_at f36_ok <| .nil) codesOk mixedOk ggKeep (hi := inplOk)) f22_at (fun x => (atoms_Text_eq k x).symm)
noncomputable def law06_fixed : (k : Nat) → (Ty.D .unit) → Option (Ty.D .bool) := fun (k : Nat) (x : Ty.unit.D) => P.bind (atoms_Rename k ([((4 : Int), (1 : Int)), ((5 : Int), (2 : Int))], (1 : Int))) fun (r : List (Int × Int)) => P.bind (atoms_Union k ([((2 : Int), (0 : Int))], [((0 : Int), (0 : Int)), ((2 : Int), (0 : Int))])) fun (r_1 : List (Int × Int)) => P.bind (atoms_Text k [((4 : Int), (1 : Int)), ((5 : Int), (2 : Int))]) fun (r_2 : ByteArray) => P.cond (P.seq r_2 (ByteArray.mk #[114, 101, 99, 49, 32, 115, 117, 109, 50])) (P.bind (atoms_Text k r) fun (r : ByteArray) => P.cond (P.seq r (ByteArray.mk #[115, 117, 109, 49, 32, 115, 117, 109, 50])) (P.bind (atoms_Text k r_1) fun (r : ByteArray) => P.cond (P.seq r (ByteArray.mk #[110, 117, 108, 108, 32, 110, 117, 109])) (P.bind (atoms_May k [((4 : Int), (1 : Int)), ((5 : Int), (2 : Int))]) fun (r : Bool) => P.cond r (P.bind (atoms_May k [((0 : Int), (1 : Int))]) fun (r : Bool) => P.cond (P.not r) (P.cond (P.inb ((0 : Int)) (P.len [((4 : Int), (1 : Int)), ((5 : Int), (2 : Int))])) (P.bind (atoms_Has k ([((4 : Int), (1 : Int)), ((5 : Int), (2 : Int))], P.get [((4 : Int), (1 : Int)), ((5 : Int), (2 : Int))] ((0 : Int)) ((0 : Int), (0 : Int)))) fun (r : Bool) => P.cond r (P.bind (atoms_Within k ([((4 : Int), (1 : Int)), ((5 : Int), (2 : Int))], [((4 : Int), (1 : Int)), ((5 : Int), (2 : Int))])) fun (r : Bool) => some r) (some false)) none) (some false)) (some false)) (some false)) (some false)) (some false)
theorem law06_fixed_eq (k : Nat) (x : (Ty.D .unit)) : evFn (EN8 k [(12, ⟨(.slice T_api_Atom), .bool, atoms_May k⟩), (14, ⟨(.pair (.slice T_api_Atom) (.slice T_api_Atom)), (.slice T_api_Atom), atoms_Union k⟩), (16, ⟨(.pair (.slice T_api_Atom) (.slice T_api_Atom)), .bool, atoms_Within k⟩), (18, ⟨(.pair (.slice T_api_Atom) T_api_Atom), .bool, atoms_Has k⟩), (20, ⟨(.pair (.slice T_api_Atom) (.int .i64)), (.slice T_api_Atom), atoms_Rename k⟩), (22, ⟨(.slice T_api_Atom), .str, atoms_Text k⟩)]) 6 Tryd.f8 [] .unit .bool x = law06_fixed k x := by kernel_rfl
theorem law06_fixed_spec (k : Nat) : SpecOk Tryd.prog GG 8 ⟨.unit, .bool, law06_fixed k⟩ :=
  fn_spec (envOk (E := EN8 k [(12, ⟨(.slice T_api_Atom), .bool, atoms_May k⟩), (14, ⟨(.pair (.slice T_api_Atom) (.slice T_api_Atom)), (.slice T_api_Atom), atoms_Union k⟩), (16, ⟨(.pair (.slice T_api_Atom) (.slice T_api_Atom)), .bool, atoms_Within k⟩), (18, ⟨(.pair (.slice T_api_Atom) T_api_Atom), .bool, atoms_Has k⟩), (20, ⟨(.pair (.slice T_api_Atom) (.int .i64)), (.slice T_api_Atom), atoms_Rename k⟩), (22, ⟨(.slice T_api_Atom), .str, atoms_Text k⟩)]) tabOk (.cons (atoms_May_spec k) f12_at f12_ok <| .cons (atoms_Union_spec k) f14_at f14_ok <| .cons (atoms_Within_spec k) f16_at f16_ok <| .cons (atoms_Has_spec k) f18_at f18_ok <| .cons (atoms_Rename_spec k) f20_at f20_ok <| .cons (atoms_Text_spec k) f22_at f22_ok <| .nil) codesOk mixedOk ggKeep (hi := inplOk)) f8_at (fun x => (law06_fixed_eq k x).symm)
noncomputable def ref06_Same : (k : Nat) → (Ty.D (.pair (.slice T_api_Atom) (.slice T_api_Atom))) → Option (Ty.D .bool) := fun (k : Nat) (x : (T_api_Atom.slice.pair T_api_Atom.slice).D) => P.cond (P.not (P.ieq (P.len x.fst) (P.len x.snd))) (some false) (P.bind (P.iter k (fun (y : Int) => P.cond (P.ilt y (P.len x.fst)) (P.cond (P.inb y (P.len x.fst)) (P.cond (P.inb y (P.len x.snd)) (P.cond (P.not (P.and (P.ieq (P.get x.fst y ((0 : Int), (0 : Int))).fst (P.get x.snd y ((0 : Int), (0 : Int))).fst) (P.ieq (P.get x.fst y ((0 : Int), (0 : Int))).snd (P.get x.snd y ((0 : Int), (0 : Int))).snd))) (some (Sum.inr (Sum.inr false))) (some (Sum.inl (P.wrap IntKind.i64 (P.add y ((1 : Int))))))) none) none) (some (Sum.inr (Sum.inl PUnit.unit)))) ((0 : Int))) (P.either (fun (z : PUnit) => some true) fun (r : Bool) => some r))
theorem ref06_Same_eq (k : Nat) (x : (Ty.D (.pair (.slice T_api_Atom) (.slice T_api_Atom)))) : evFn (EN k []) 6 Tryd.f9 [(4, ⟨[.var 5 (.d (.int .i64))], [], (some (0, []))⟩)] (.pair (.slice T_api_Atom) (.slice T_api_Atom)) .bool x = ref06_Same k x := by kernel_rfl
theorem ref06_Same_spec (k : Nat) : SpecOk Tryd.prog GG 9 ⟨(.pair (.slice T_api_Atom) (.slice T_api_Atom)), .bool, ref06_Same k⟩ :=
  fn_spec (envOk (E := EN k []) tabOk (.nil) codesOk mixedOk ggKeep (hi := inplOk)) f9_at (fun x => (ref06_Same_eq k x).symm)
noncomputable def ref06_Has : (k : Nat) → (Ty.D (.pair (.slice T_api_Atom) T_api_Atom)) → Option (Ty.D .bool) := fun (k : Nat) (x : (T_api_Atom.slice.pair T_api_Atom).D) => P.bind (P.iter k (fun (y : Int) => P.cond (P.ilt y (P.len x.fst)) (P.cond (P.inb y (P.len x.fst)) (P.cond (P.and (P.ieq (P.get x.fst y ((0 : Int), (0 : Int))).fst x.snd.fst) (P.ieq (P.get x.fst y ((0 : Int), (0 : Int))).snd x.snd.snd)) (some (Sum.inr (Sum.inr true))) (some (Sum.inl (P.wrap IntKind.i64 (P.add y ((1 : Int))))))) none) (some (Sum.inr (Sum.inl PUnit.unit)))) ((0 : Int))) (P.either (fun (z : PUnit) => some false) fun (r : Bool) => some r)
theorem ref06_Has_eq (k : Nat) (x : (Ty.D (.pair (.slice T_api_Atom) T_api_Atom))) : evFn (EN k []) 6 Tryd.f19 [(2, ⟨[.var 5 (.d (.int .i64))], [], (some (0, []))⟩)] (.pair (.slice T_api_Atom) T_api_Atom) .bool x = ref06_Has k x := by kernel_rfl
theorem ref06_Has_spec (k : Nat) : SpecOk Tryd.prog GG 19 ⟨(.pair (.slice T_api_Atom) T_api_Atom), .bool, ref06_Has k⟩ :=
  fn_spec (envOk (E := EN k []) tabOk (.nil) codesOk mixedOk ggKeep (hi := inplOk)) f19_at (fun x => (ref06_Has_eq k x).symm)
noncomputable def ref06_Right : (k : Nat) → (Ty.D T_api_Atom) → Option (Ty.D .bool) := fun (k : Nat) (x : T_api_Atom.D) => P.cond (P.ile ((3 : Int)) x.fst) (P.cond (P.ile x.fst ((5 : Int))) (some (P.ile ((0 : Int)) x.snd)) (P.cond (P.ile ((0 : Int)) x.fst) (P.cond (P.ile x.fst ((6 : Int))) (some (P.ieq x.snd ((0 : Int)))) (some false)) (some false))) (P.cond (P.ile ((0 : Int)) x.fst) (P.cond (P.ile x.fst ((6 : Int))) (some (P.ieq x.snd ((0 : Int)))) (some false)) (some false))
theorem ref06_Right_eq (k : Nat) (x : (Ty.D T_api_Atom)) : evFn (EN k []) 6 Tryd.f43 [] T_api_Atom .bool x = ref06_Right k x := by kernel_rfl
theorem ref06_Right_spec (k : Nat) : SpecOk Tryd.prog GG 43 ⟨T_api_Atom, .bool, ref06_Right k⟩ :=
  fn_spec (envOk (E := EN k []) tabOk (.nil) codesOk mixedOk ggKeep (hi := inplOk)) f43_at (fun x => (ref06_Right_eq k x).symm)
noncomputable def ref06_Less : (k : Nat) → (Ty.D (.pair T_api_Atom T_api_Atom)) → Option (Ty.D .bool) := fun (k : Nat) (x : (T_api_Atom.pair T_api_Atom).D) => P.cond (P.ilt x.fst.fst x.snd.fst) (some true) (P.cond (P.ieq x.fst.fst x.snd.fst) (some (P.ilt x.fst.snd x.snd.snd)) (some false))
theorem ref06_Less_eq (k : Nat) (x : (Ty.D (.pair T_api_Atom T_api_Atom))) : evFn (EN k []) 6 Tryd.f44 [] (.pair T_api_Atom T_api_Atom) .bool x = ref06_Less k x := by kernel_rfl
theorem ref06_Less_spec (k : Nat) : SpecOk Tryd.prog GG 44 ⟨(.pair T_api_Atom T_api_Atom), .bool, ref06_Less k⟩ :=
  fn_spec (envOk (E := EN k []) tabOk (.nil) codesOk mixedOk ggKeep (hi := inplOk)) f44_at (fun x => (ref06_Less_eq k x).symm)
noncomputable def ref06_add : (k : Nat) → (Ty.D (.pair (.slice T_api_Atom) T_api_Atom)) → Option (Ty.D (.slice T_api_Atom)) := fun (k : Nat) (x : (T_api_Atom.slice.pair T_api_Atom).D) => P.bind (ref06_Right k x.snd) fun (r : Bool) => P.cond (P.not r) (some x.fst) (P.bind (ref06_Has k (x.fst, x.snd)) fun (r : Bool) => P.cond r (some x.fst) (P.bind (P.iter k (fun (y : List (Int × Int) × Bool × Int) => P.cond (P.ilt y.snd.snd (P.len x.fst)) (P.cond (P.not y.snd.fst) (P.cond (P.inb y.snd.snd (P.len x.fst)) (P.bind (ref06_Less k (x.snd, P.get x.fst y.snd.snd ((0 : Int), (0 : Int)))) fun (r : Bool) => P.cond r (P.cond (P.room (P.add (P.len y.fst) (P.len [x.snd])) 16) (P.cond (P.inb y.snd.snd (P.len x.fst)) (P.cond (P.room (P.add (P.len (P.app y.fst [x.snd])) (P.len [P.get x.fst y.snd.snd ((0 : Int), (0 : Int))])) 16) (some (Sum.inl (P.app (P.app y.fst [x.snd]) [P.get x.fst y.snd.snd ((0 : Int), (0 : Int))], true, P.wrap IntKind.i64 (P.add y.snd.snd ((1 : Int)))))) none) none) none) (P.cond (P.inb y.snd.snd (P.len x.fst)) (P.cond (P.room (P.add (P.len y.fst) (P.len [P.get x.fst y.snd.snd ((0 : Int), (0 : Int))])) 16) (some (Sum.inl (P.app y.fst [P.get x.fst y.snd.snd ((0 : Int), (0 : Int))], y.snd.fst, P.wrap IntKind.i64 (P.add y.snd.snd ((1 : Int)))))) none) none)) none) (P.cond (P.inb y.snd.snd (P.len x.fst)) (P.cond (P.room (P.add (P.len y.fst) (P.len [P.get x.fst y.snd.snd ((0 : Int), (0 : Int))])) 16) (some (Sum.inl (P.app y.fst [P.get x.fst y.snd.snd ((0 : Int), (0 : Int))], y.snd.fst, P.wrap IntKind.i64 (P.add y.snd.snd ((1 : Int)))))) none) none)) (some (Sum.inr (Sum.inl (y.fst, y.snd.fst))))) ([], false, (0 : Int))) (P.either (fun (z : List (Int × Int) × Bool) => P.cond (P.not z.snd) (P.cond (P.room (P.add (P.len z.fst) (P.len [x.snd])) 16) (some (P.app z.fst [x.snd])) none) (some z.fst)) fun (r : List (Int × Int)) => some r)))
theorem ref06_add_eq (k : Nat) (x : (Ty.D (.pair (.slice T_api_Atom) T_api_Atom))) : evFn (EN k [(19, ⟨(.pair (.slice T_api_Atom) T_api_Atom), .bool, ref06_Has k⟩), (43, ⟨T_api_Atom, .bool, ref06_Right k⟩), (44, ⟨(.pair T_api_Atom T_api_Atom), .bool, ref06_Less k⟩)]) 6 Tryd.f31 [(6, ⟨[.var 5 (.o (.st (.pair (.int .i64) (.int .i64)))), .var 6 (.d .bool), .var 7 (.d (.int .i64))], [], (some (0, [.var 5 (.o (.st (.pair (.int .i64) (.int .i64)))), .var 6 (.d .bool)]))⟩)] (.pair (.slice T_api_Atom) T_api_Atom) (.slice T_api_Atom) x = ref06_add k x := by kernel_rfl
theorem ref06_add_spec (k : Nat) : SpecOk Tryd.prog GG 31 ⟨(.pair (.slice T_api_Atom) T_api_Atom), (.slice T_api_Atom), ref06_add k⟩ :=
  fn_spec (envOk (E := EN k [(19, ⟨(.pair (.slice T_api_Atom) T_api_Atom), .bool, ref06_Has k⟩), (43, ⟨T_api_Atom, .bool, ref06_Right k⟩), (44, ⟨(.pair T_api_Atom T_api_Atom), .bool, ref06_Less k⟩)]) tabOk (.cons (ref06_Has_spec k) f19_at f19_ok <| .cons (ref06_Right_spec k) f43_at f43_ok <| .cons (ref06_Less_spec k) f44_at f44_ok <| .nil) codesOk mixedOk ggKeep (hi := inplOk)) f31_at (fun x => (ref06_add_eq k x).symm)
noncomputable def ref06_Norm : (k : Nat) → (Ty.D (.slice T_api_Atom)) → Option (Ty.D (.slice T_api_Atom)) := fun (k : Nat) (x : T_api_Atom.slice.D) => P.bind (P.iter k (fun (y : List (Int × Int) × Int) => P.cond (P.ilt y.snd (P.len x)) (P.cond (P.inb y.snd (P.len x)) (P.bind (ref06_add k (y.fst, P.get x y.snd ((0 : Int), (0 : Int)))) fun (r : List (Int × Int)) => some (Sum.inl (r, P.wrap IntKind.i64 (P.add y.snd ((1 : Int)))))) none) (some (Sum.inr (Sum.inl y.fst)))) ([], (0 : Int))) (P.either (fun (z : List (Int × Int)) => some z) fun (r : List (Int × Int)) => some r)
theorem ref06_Norm_eq (k : Nat) (x : (Ty.D (.slice T_api_Atom))) : evFn (EN k [(31, ⟨(.pair (.slice T_api_Atom) T_api_Atom), (.slice T_api_Atom), ref06_add k⟩)]) 6 Tryd.f11 [(3, ⟨[.var 3 (.d (.slice (.st (.pair (.int .i64) (.int .i64))))), .var 4 (.d (.int .i64))], [], (some (0, [.var 3 (.d (.slice (.st (.pair (.int .i64) (.int .i64)))))]))⟩)] (.slice T_api_Atom) (.slice T_api_Atom) x = ref06_Norm k x := by kernel_rfl
theorem ref06_Norm_spec (k : Nat) : SpecOk Tryd.prog GG 11 ⟨(.slice T_api_Atom), (.slice T_api_Atom), ref06_Norm k⟩ :=
  fn_spec (envOk (E := EN k [(31, ⟨(.pair (.slice T_api_Atom) T_api_Atom), (.slice T_api_Atom), ref06_add k⟩)]) tabOk (.cons (ref06_add_spec k) f31_at f31_ok <| .nil) codesOk mixedOk ggKeep (hi := inplOk)) f11_at (fun x => (ref06_Norm_eq k x).symm)
noncomputable def ref06_May : (k : Nat) → (Ty.D (.slice T_api_Atom)) → Option (Ty.D .bool) := fun (k : Nat) (x : T_api_Atom.slice.D) => P.bind (ref06_Norm k x) fun (r : List (Int × Int)) => P.bind (ref06_Same k (x, r)) fun (r : Bool) => some r
theorem ref06_May_eq (k : Nat) (x : (Ty.D (.slice T_api_Atom))) : evFn (EN k [(9, ⟨(.pair (.slice T_api_Atom) (.slice T_api_Atom)), .bool, ref06_Same k⟩), (11, ⟨(.slice T_api_Atom), (.slice T_api_Atom), ref06_Norm k⟩)]) 6 Tryd.f13 [] (.slice T_api_Atom) .bool x = ref06_May k x := by kernel_rfl
theorem ref06_May_spec (k : Nat) : SpecOk Tryd.prog GG 13 ⟨(.slice T_api_Atom), .bool, ref06_May k⟩ :=
  fn_spec (envOk (E := EN k [(9, ⟨(.pair (.slice T_api_Atom) (.slice T_api_Atom)), .bool, ref06_Same k⟩), (11, ⟨(.slice T_api_Atom), (.slice T_api_Atom), ref06_Norm k⟩)]) tabOk (.cons (ref06_Same_spec k) f9_at f9_ok <| .cons (ref06_Norm_spec k) f11_at f11_ok <| .nil) codesOk mixedOk ggKeep (hi := inplOk)) f13_at (fun x => (ref06_May_eq k x).symm)
noncomputable def ref06_Union : (k : Nat) → (Ty.D (.pair (.slice T_api_Atom) (.slice T_api_Atom))) → Option (Ty.D (.slice T_api_Atom)) := fun (k : Nat) (x : (T_api_Atom.slice.pair T_api_Atom.slice).D) => P.bind (ref06_Norm k x.fst) fun (r : List (Int × Int)) => P.bind (P.iter k (fun (y : List (Int × Int) × Int) => P.cond (P.ilt y.snd (P.len x.snd)) (P.cond (P.inb y.snd (P.len x.snd)) (P.bind (ref06_add k (y.fst, P.get x.snd y.snd ((0 : Int), (0 : Int)))) fun (r : List (Int × Int)) => some (Sum.inl (r, P.wrap IntKind.i64 (P.add y.snd ((1 : Int)))))) none) (some (Sum.inr (Sum.inl y.fst)))) (r, (0 : Int))) (P.either (fun (z : List (Int × Int)) => some z) fun (r : List (Int × Int)) => some r)
theorem ref06_Union_eq (k : Nat) (x : (Ty.D (.pair (.slice T_api_Atom) (.slice T_api_Atom)))) : evFn (EN k [(11, ⟨(.slice T_api_Atom), (.slice T_api_Atom), ref06_Norm k⟩), (31, ⟨(.pair (.slice T_api_Atom) T_api_Atom), (.slice T_api_Atom), ref06_add k⟩)]) 6 Tryd.f15 [(3, ⟨[.var 5 (.d (.slice (.st (.pair (.int .i64) (.int .i64))))), .var 6 (.d (.int .i64))], [], (some (0, [.var 5 (.d (.slice (.st (.pair (.int .i64) (.int .i64)))))]))⟩)] (.pair (.slice T_api_Atom) (.slice T_api_Atom)) (.slice T_api_Atom) x = ref06_Union k x := by kernel_rfl
theorem ref06_Union_spec (k : Nat) : SpecOk Tryd.prog GG 15 ⟨(.pair (.slice T_api_Atom) (.slice T_api_Atom)), (.slice T_api_Atom), ref06_Union k⟩ :=
  fn_spec (envOk (E := EN k [(11, ⟨(.slice T_api_Atom), (.slice T_api_Atom), ref06_Norm k⟩), (31, ⟨(.pair (.slice T_api_Atom) T_api_Atom), (.slice T_api_Atom), ref06_add k⟩)]) tabOk (.cons (ref06_Norm_spec k) f11_at f11_ok <| .cons (ref06_add_spec k) f31_at f31_ok <| .nil) codesOk mixedOk ggKeep (hi := inplOk)) f15_at (fun x => (ref06_Union_eq k x).symm)
noncomputable def ref06_Within : (k : Nat) → (Ty.D (.pair (.slice T_api_Atom) (.slice T_api_Atom))) → Option (Ty.D .bool) := fun (k : Nat) (x : (T_api_Atom.slice.pair T_api_Atom.slice).D) => P.bind (P.iter k (fun (y : Int) => P.cond (P.ilt y (P.len x.fst)) (P.cond (P.inb y (P.len x.fst)) (P.bind (ref06_Has k (x.snd, P.get x.fst y ((0 : Int), (0 : Int)))) fun (r : Bool) => P.cond (P.not r) (some (Sum.inr (Sum.inr false))) (some (Sum.inl (P.wrap IntKind.i64 (P.add y ((1 : Int))))))) none) (some (Sum.inr (Sum.inl PUnit.unit)))) ((0 : Int))) (P.either (fun (z : PUnit) => some true) fun (r : Bool) => some r)
theorem ref06_Within_eq (k : Nat) (x : (Ty.D (.pair (.slice T_api_Atom) (.slice T_api_Atom)))) : evFn (EN k [(19, ⟨(.pair (.slice T_api_Atom) T_api_Atom), .bool, ref06_Has k⟩)]) 6 Tryd.f17 [(2, ⟨[.var 5 (.d (.int .i64))], [], (some (0, []))⟩)] (.pair (.slice T_api_Atom) (.slice T_api_Atom)) .bool x = ref06_Within k x := by kernel_rfl
theorem ref06_Within_spec (k : Nat) : SpecOk Tryd.prog GG 17 ⟨(.pair (.slice T_api_Atom) (.slice T_api_Atom)), .bool, ref06_Within k⟩ :=
  fn_spec (envOk (E := EN k [(19, ⟨(.pair (.slice T_api_Atom) T_api_Atom), .bool, ref06_Has k⟩)]) tabOk (.cons (ref06_Has_spec k) f19_at f19_ok <| .nil) codesOk mixedOk ggKeep (hi := inplOk)) f17_at (fun x => (ref06_Within_eq k x).symm)
noncomputable def ref06_Rename : (k : Nat) → (Ty.D (.pair (.slice T_api_Atom) (.int .i64))) → Option (Ty.D (.slice T_api_Atom)) := fun (k : Nat) (x : (T_api_Atom.slice.pair (Ty.int IntKind.i64)).D) => P.bind (P.iter k (fun (y : List (Int × Int) × Int) => P.cond (P.ilt y.snd (P.len x.fst)) (P.cond (P.inb y.snd (P.len x.fst)) (P.cond (P.ieq (P.get x.fst y.snd ((0 : Int), (0 : Int))).fst ((4 : Int))) (P.cond (P.ieq (P.get x.fst y.snd ((0 : Int), (0 : Int))).snd x.snd) (P.cond (P.room (P.add (P.len y.fst) (P.len [((5 : Int), (P.get x.fst y.snd ((0 : Int), (0 : Int))).snd)])) 16) (some (Sum.inl (P.app y.fst [((5 : Int), (P.get x.fst y.snd ((0 : Int), (0 : Int))).snd)], P.wrap IntKind.i64 (P.add y.snd ((1 : Int)))))) none) (P.cond (P.room (P.add (P.len y.fst) (P.len [P.get x.fst y.snd ((0 : Int), (0 : Int))])) 16) (some (Sum.inl (P.app y.fst [P.get x.fst y.snd ((0 : Int), (0 : Int))], P.wrap IntKind.i64 (P.add y.snd ((1 : Int)))))) none)) (P.cond (P.room (P.add (P.len y.fst) (P.len [P.get x.fst y.snd ((0 : Int), (0 : Int))])) 16) (some (Sum.inl (P.app y.fst [P.get x.fst y.snd ((0 : Int), (0 : Int))], P.wrap IntKind.i64 (P.add y.snd ((1 : Int)))))) none)) none) (some (Sum.inr (Sum.inl y.fst)))) ([], (0 : Int))) (P.either (fun (z : List (Int × Int)) => P.bind (ref06_Norm k z) fun (r : List (Int × Int)) => some r) fun (r : List (Int × Int)) => some r)
theorem ref06_Rename_eq (k : Nat) (x : (Ty.D (.pair (.slice T_api_Atom) (.int .i64)))) : evFn (EN k [(11, ⟨(.slice T_api_Atom), (.slice T_api_Atom), ref06_Norm k⟩)]) 6 Tryd.f21 [(3, ⟨[.var 5 (.o (.st (.pair (.int .i64) (.int .i64)))), .var 6 (.d (.int .i64))], [], (some (0, [.var 5 (.o (.st (.pair (.int .i64) (.int .i64))))]))⟩)] (.pair (.slice T_api_Atom) (.int .i64)) (.slice T_api_Atom) x = ref06_Rename k x := by kernel_rfl
theorem ref06_Rename_spec (k : Nat) : SpecOk Tryd.prog GG 21 ⟨(.pair (.slice T_api_Atom) (.int .i64)), (.slice T_api_Atom), ref06_Rename k⟩ :=
  fn_spec (envOk (E := EN k [(11, ⟨(.slice T_api_Atom), (.slice T_api_Atom), ref06_Norm k⟩)]) tabOk (.cons (ref06_Norm_spec k) f11_at f11_ok <| .nil) codesOk mixedOk ggKeep (hi := inplOk)) f21_at (fun x => (ref06_Rename_eq k x).symm)
noncomputable def ref03_Digits : (k : Nat) → (Ty.D (.int .u64)) → Option (Ty.D .str) := fun (k : Nat) (x : (Ty.int IntKind.u64).D) => P.bind (P.iter k (fun (y : Int × ByteArray) => P.cond (P.ilt ((9 : Int)) y.fst) (P.cond (P.not (P.ieq ((10 : Int)) ((0 : Int)))) (P.cond (P.not (P.ieq ((10 : Int)) ((0 : Int)))) (P.cond (P.cut (P.rem y.fst ((10 : Int))) (P.wrap IntKind.u64 (P.add (P.rem y.fst ((10 : Int))) ((1 : Int)))) (P.slen (ByteArray.mk #[48, 49, 50, 51, 52, 53, 54, 55, 56, 57]))) (P.cond (P.sfit (P.ssub (ByteArray.mk #[48, 49, 50, 51, 52, 53, 54, 55, 56, 57]) (P.rem y.fst ((10 : Int))) (P.wrap IntKind.u64 (P.add (P.rem y.fst ((10 : Int))) ((1 : Int))))) y.snd) (P.cond (P.not (P.ieq ((10 : Int)) ((0 : Int)))) (some (Sum.inl (P.wrap IntKind.u64 (P.quo y.fst ((10 : Int))), P.scat (P.ssub (ByteArray.mk #[48, 49, 50, 51, 52, 53, 54, 55, 56, 57]) (P.rem y.fst ((10 : Int))) (P.wrap IntKind.u64 (P.add (P.rem y.fst ((10 : Int))) ((1 : Int))))) y.snd))) none) none) none) none) none) (some (Sum.inr (Sum.inl (y.fst, y.snd))))) (x, (ByteArray.mk #[]))) (P.either (fun (z : Int × ByteArray) => P.cond (P.cut z.fst (P.wrap IntKind.u64 (P.add z.fst ((1 : Int)))) (P.slen (ByteArray.mk #[48, 49, 50, 51, 52, 53, 54, 55, 56, 57]))) (P.cond (P.sfit (P.ssub (ByteArray.mk #[48, 49, 50, 51, 52, 53, 54, 55, 56, 57]) z.fst (P.wrap IntKind.u64 (P.add z.fst ((1 : Int))))) z.snd) (some (P.scat (P.ssub (ByteArray.mk #[48, 49, 50, 51, 52, 53, 54, 55, 56, 57]) z.fst (P.wrap IntKind.u64 (P.add z.fst ((1 : Int))))) z.snd)) none) none) fun (r : ByteArray) => some r)
theorem ref03_Digits_eq (k : Nat) (x : (Ty.D (.int .u64))) : evFn (EN k []) 6 Tryd.f51 [(2, ⟨[.var 0 (.d (.int .u64)), .var 3 (.d .str)], [], (some (0, [.var 0 (.d (.int .u64)), .var 3 (.d .str)]))⟩)] (.int .u64) .str x = ref03_Digits k x := by kernel_rfl
theorem ref03_Digits_spec (k : Nat) : SpecOk Tryd.prog GG 51 ⟨(.int .u64), .str, ref03_Digits k⟩ :=
  fn_spec (envOk (E := EN k []) tabOk (.nil) codesOk mixedOk ggKeep (hi := inplOk)) f51_at (fun x => (ref03_Digits_eq k x).symm)
noncomputable def ref03_Signed : (k : Nat) → (Ty.D (.int .i64)) → Option (Ty.D .str) := fun (k : Nat) (x : (Ty.int IntKind.i64).D) => P.cond (P.ilt x ((0 : Int))) (P.bind (ref03_Digits k (P.wrap IntKind.u64 (P.add (P.wrap IntKind.u64 (P.wrap IntKind.i64 (P.sub ((0 : Int)) (P.wrap IntKind.i64 (P.add x ((1 : Int))))))) ((1 : Int))))) fun (r : ByteArray) => P.cond (P.sfit (ByteArray.mk #[45]) r) (some (P.scat (ByteArray.mk #[45]) r)) none) (P.bind (ref03_Digits k (P.wrap IntKind.u64 x)) fun (r : ByteArray) => some r)
theorem ref03_Signed_eq (k : Nat) (x : (Ty.D (.int .i64))) : evFn (EN k [(51, ⟨(.int .u64), .str, ref03_Digits k⟩)]) 6 Tryd.f37 [] (.int .i64) .str x = ref03_Signed k x := by kernel_rfl
theorem ref03_Signed_spec (k : Nat) : SpecOk Tryd.prog GG 37 ⟨(.int .i64), .str, ref03_Signed k⟩ :=
  fn_spec (envOk (E := EN k [(51, ⟨(.int .u64), .str, ref03_Digits k⟩)]) tabOk (.cons (ref03_Digits_spec k) f51_at f51_ok <| .nil) codesOk mixedOk ggKeep (hi := inplOk)) f37_at (fun x => (ref03_Signed_eq k x).symm)
noncomputable def ref06_Text : (k : Nat) → (Ty.D (.slice T_api_Atom)) → Option (Ty.D .str) := fun (k : Nat) (x : T_api_Atom.slice.D) => P.bind (P.iter k (fun (y : ByteArray × Int) => P.cond (P.ilt y.snd (P.len x)) (P.cond (P.ilt ((0 : Int)) y.snd) (P.cond (P.sfit y.fst (ByteArray.mk #[32])) (P.cond (P.inb y.snd (P.len x)) (P.cond (P.ilt (P.get x y.snd ((0 : Int), (0 : Int))).fst ((0 : Int))) (P.cond (P.sfit (P.scat y.fst (ByteArray.mk #[32])) (ByteArray.mk #[63])) (some (Sum.inl (P.scat (P.scat y.fst (ByteArray.mk #[32])) (ByteArray.mk #[63]), P.wrap IntKind.i64 (P.add y.snd ((1 : Int)))))) none) (P.cond (P.ilt ((6 : Int)) (P.get x y.snd ((0 : Int), (0 : Int))).fst) (P.cond (P.sfit (P.scat y.fst (ByteArray.mk #[32])) (ByteArray.mk #[63])) (some (Sum.inl (P.scat (P.scat y.fst (ByteArray.mk #[32])) (ByteArray.mk #[63]), P.wrap IntKind.i64 (P.add y.snd ((1 : Int)))))) none) (P.cond (P.inb (P.get x y.snd ((0 : Int), (0 : Int))).fst (P.len [(ByteArray.mk #[110, 117, 108, 108]), (ByteArray.mk #[98, 111, 111, 108]), (ByteArray.mk #[110, 117, 109]), (ByteArray.mk #[102, 117, 110]), (ByteArray.mk #[114, 101, 99]), (ByteArray.mk #[115, 117, 109]), (ByteArray.mk #[97, 110, 121])])) (P.cond (P.sfit (P.scat y.fst (ByteArray.mk #[32])) (P.get [(ByteArray.mk #[110, 117, 108, 108]), (ByteArray.mk #[98, 111, 111, 108]), (ByteArray.mk #[110, 117, 109]), (ByteArray.mk #[102, 117, 110]), (ByteArray.mk #[114, 101, 99]), (ByteArray.mk #[115, 117, 109]), (ByteArray.mk #[97, 110, 121])] (P.get x y.snd ((0 : Int), (0 : Int))).fst (ByteArray.mk #[]))) (P.cond (P.ile ((3 : Int)) (P.get x y.snd ((0 : Int), (0 : Int))).fst) (P.cond (P.ile (P.get x y.snd ((0 : Int), (0 : Int))).fst ((5 : Int))) (P.cond (P.inb y.snd (P.len x)) (P.bind (ref03_Signed k (P.get x y.snd ((0 : Int), (0 : Int))).snd) fun (r : ByteArray) => P.cond (P.sfit (P.scat (P.scat y.fst (ByteArray.mk #[32])) (P.get [(ByteArray.mk #[110, 117, 108, 108]), (ByteArray.mk #[98, 111, 111, 108]), (ByteArray.mk #[110, 117, 109]), (ByteArray.mk #[102, 117, 110]), (ByteArray.mk #[114, 101, 99]), (ByteArray.mk #[115, 117, 109]), (ByteArray.mk #[97, 110, 121])] (P.get x y.snd ((0 : Int), (0 : Int))).fst (ByteArray.mk #[]))) r) (some (Sum.inl (P.scat (P.scat (P.scat y.fst (ByteArray.mk #[32])) (P.get [(ByteArray.mk #[110, 117, 108, 108]), (ByteArray.mk #[98, 111, 111, 108]), (ByteArray.mk #[110, 117, 109]), (ByteArray.mk #[102, 117, 110]), (ByteArray.mk #[114, 101, 99]), (ByteArray.mk #[115, 117, 109]), (ByteArray.mk #[97, 110, 121])] (P.get x y.snd ((0 : Int), (0 : Int))).fst (ByteArray.mk #[]))) r, P.wrap IntKind.i64 (P.add y.snd ((1 : Int)))))) none) none) (some (Sum.inl (P.scat (P.scat y.fst (ByteArray.mk #[32])) (P.get [(ByteArray.mk #[110, 117, 108, 108]), (ByteArray.mk #[98, 111, 111, 108]), (ByteArray.mk #[110, 117, 109]), (ByteArray.mk #[102, 117, 110]), (ByteArray.mk #[114, 101, 99]), (ByteArray.mk #[115, 117, 109]), (ByteArray.mk #[97, 110, 121])] (P.get x y.snd ((0 : Int), (0 : Int))).fst (ByteArray.mk #[])), P.wrap IntKind.i64 (P.add y.snd ((1 : Int))))))) (some (Sum.inl (P.scat (P.scat y.fst (ByteArray.mk #[32])) (P.get [(ByteArray.mk #[110, 117, 108, 108]), (ByteArray.mk #[98, 111, 111, 108]), (ByteArray.mk #[110, 117, 109]), (ByteArray.mk #[102, 117, 110]), (ByteArray.mk #[114, 101, 99]), (ByteArray.mk #[115, 117, 109]), (ByteArray.mk #[97, 110, 121])] (P.get x y.snd ((0 : Int), (0 : Int))).fst (ByteArray.mk #[])), P.wrap IntKind.i64 (P.add y.snd ((1 : Int))))))) none) none))) none) none) (P.cond (P.inb y.snd (P.len x)) (P.cond (P.ilt (P.get x y.snd ((0 : Int), (0 : Int))).fst ((0 : Int))) (P.cond (P.sfit y.fst (ByteArray.mk #[63])) (some (Sum.inl (P.scat y.fst (ByteArray.mk #[63]), P.wrap IntKind.i64 (P.add y.snd ((1 : Int)))))) none) (P.cond (P.ilt ((6 : Int)) (P.get x y.snd ((0 : Int), (0 : Int))).fst) (P.cond (P.sfit y.fst (ByteArray.mk #[63])) (some (Sum.inl (P.scat y.fst (ByteArray.mk #[63]), P.wrap IntKind.i64 (P.add y.snd ((1 : Int)))))) none) (P.cond (P.inb (P.get x y.snd ((0 : Int), (0 : Int))).fst (P.len [(ByteArray.mk #[110, 117, 108, 108]), (ByteArray.mk #[98, 111, 111, 108]), (ByteArray.mk #[110, 117, 109]), (ByteArray.mk #[102, 117, 110]), (ByteArray.mk #[114, 101, 99]), (ByteArray.mk #[115, 117, 109]), (ByteArray.mk #[97, 110, 121])])) (P.cond (P.sfit y.fst (P.get [(ByteArray.mk #[110, 117, 108, 108]), (ByteArray.mk #[98, 111, 111, 108]), (ByteArray.mk #[110, 117, 109]), (ByteArray.mk #[102, 117, 110]), (ByteArray.mk #[114, 101, 99]), (ByteArray.mk #[115, 117, 109]), (ByteArray.mk #[97, 110, 121])] (P.get x y.snd ((0 : Int), (0 : Int))).fst (ByteArray.mk #[]))) (P.cond (P.ile ((3 : Int)) (P.get x y.snd ((0 : Int), (0 : Int))).fst) (P.cond (P.ile (P.get x y.snd ((0 : Int), (0 : Int))).fst ((5 : Int))) (P.cond (P.inb y.snd (P.len x)) (P.bind (ref03_Signed k (P.get x y.snd ((0 : Int), (0 : Int))).snd) fun (r : ByteArray) => P.cond (P.sfit (P.scat y.fst (P.get [(ByteArray.mk #[110, 117, 108, 108]), (ByteArray.mk #[98, 111, 111, 108]), (ByteArray.mk #[110, 117, 109]), (ByteArray.mk #[102, 117, 110]), (ByteArray.mk #[114, 101, 99]), (ByteArray.mk #[115, 117, 109]), (ByteArray.mk #[97, 110, 121])] (P.get x y.snd ((0 : Int), (0 : Int))).fst (ByteArray.mk #[]))) r) (some (Sum.inl (P.scat (P.scat y.fst (P.get [(ByteArray.mk #[110, 117, 108, 108]), (ByteArray.mk #[98, 111, 111, 108]), (ByteArray.mk #[110, 117, 109]), (ByteArray.mk #[102, 117, 110]), (ByteArray.mk #[114, 101, 99]), (ByteArray.mk #[115, 117, 109]), (ByteArray.mk #[97, 110, 121])] (P.get x y.snd ((0 : Int), (0 : Int))).fst (ByteArray.mk #[]))) r, P.wrap IntKind.i64 (P.add y.snd ((1 : Int)))))) none) none) (some (Sum.inl (P.scat y.fst (P.get [(ByteArray.mk #[110, 117, 108, 108]), (ByteArray.mk #[98, 111, 111, 108]), (ByteArray.mk #[110, 117, 109]), (ByteArray.mk #[102, 117, 110]), (ByteArray.mk #[114, 101, 99]), (ByteArray.mk #[115, 117, 109]), (ByteArray.mk #[97, 110, 121])] (P.get x y.snd ((0 : Int), (0 : Int))).fst (ByteArray.mk #[])), P.wrap IntKind.i64 (P.add y.snd ((1 : Int))))))) (some (Sum.inl (P.scat y.fst (P.get [(ByteArray.mk #[110, 117, 108, 108]), (ByteArray.mk #[98, 111, 111, 108]), (ByteArray.mk #[110, 117, 109]), (ByteArray.mk #[102, 117, 110]), (ByteArray.mk #[114, 101, 99]), (ByteArray.mk #[115, 117, 109]), (ByteArray.mk #[97, 110, 121])] (P.get x y.snd ((0 : Int), (0 : Int))).fst (ByteArray.mk #[])), P.wrap IntKind.i64 (P.add y.snd ((1 : Int))))))) none) none))) none)) (some (Sum.inr (Sum.inl y.fst)))) ((ByteArray.mk #[]), (0 : Int))) (P.either (fun (z : ByteArray) => some z) fun (r : ByteArray) => some r)
theorem ref06_Text_eq (k : Nat) (x : (Ty.D (.slice T_api_Atom))) : evFn (EN k [(37, ⟨(.int .i64), .str, ref03_Signed k⟩)]) 6 Tryd.f23 [(4, ⟨[.var 4 (.d .str), .var 5 (.d (.int .i64))], [], (some (0, [.var 4 (.d .str)]))⟩)] (.slice T_api_Atom) .str x = ref06_Text k x := by kernel_rfl
theorem ref06_Text_spec (k : Nat) : SpecOk Tryd.prog GG 23 ⟨(.slice T_api_Atom), .str, ref06_Text k⟩ :=
  fn_spec (envOk (E := EN k [(37, ⟨(.int .i64), .str, ref03_Signed k⟩)]) tabOk (.cons (ref03_Signed_spec k) f37_at f37_ok <| .nil) codesOk mixedOk ggKeep (hi := inplOk)) f23_at (fun x => (ref06_Text_eq k x).symm)
noncomputable def law06_AtomsTells : (k : Nat) → (Ty.D (.pair (.slice T_api_Atom) (.pair (.slice T_api_Atom) T_api_Atom))) → Option (Ty.D .bool) := fun (k : Nat) (x : (T_api_Atom.slice.pair (T_api_Atom.slice.pair T_api_Atom)).D) => P.cond (P.ilt ((200 : Int)) (P.len x.fst)) (P.bind (law06_fixed k PUnit.unit) fun (r : Bool) => some r) (P.cond (P.ilt ((200 : Int)) (P.len x.snd.fst)) (P.bind (law06_fixed k PUnit.unit) fun (r : Bool) => some r) (P.bind (law06_fixed k PUnit.unit) fun (r : Bool) => P.cond r (P.bind (atoms_Norm k x.fst) fun (r : List (Int × Int)) => P.bind (ref06_Norm k x.fst) fun (r_1 : List (Int × Int)) => P.bind (ref06_Same k (r, r_1)) fun (r : Bool) => P.cond r (P.bind (atoms_May k x.fst) fun (r : Bool) => P.bind (ref06_May k x.fst) fun (r_2 : Bool) => P.cond (P.beq r r_2) (P.bind (atoms_Union k (x.fst, x.snd.fst)) fun (r : List (Int × Int)) => P.bind (ref06_Union k (x.fst, x.snd.fst)) fun (r_3 : List (Int × Int)) => P.bind (ref06_Same k (r, r_3)) fun (r : Bool) => P.cond r (P.bind (atoms_Within k (x.fst, x.snd.fst)) fun (r : Bool) => P.bind (ref06_Within k (x.fst, x.snd.fst)) fun (r_4 : Bool) => P.cond (P.beq r r_4) (P.bind (atoms_Has k (x.fst, x.snd.snd)) fun (r : Bool) => P.bind (ref06_Has k (x.fst, x.snd.snd)) fun (r_5 : Bool) => P.cond (P.beq r r_5) (P.bind (atoms_Rename k (x.fst, x.snd.snd.snd)) fun (r : List (Int × Int)) => P.bind (ref06_Rename k (x.fst, x.snd.snd.snd)) fun (r_6 : List (Int × Int)) => P.bind (ref06_Same k (r, r_6)) fun (r : Bool) => P.cond r (P.bind (atoms_Text k x.fst) fun (r : ByteArray) => P.bind (ref06_Text k x.fst) fun (r_7 : ByteArray) => some (P.seq r r_7)) (some false)) (some false)) (some false)) (some false)) (some false)) (some false)) (some false)))
theorem law06_AtomsTells_eq (k : Nat) (x : (Ty.D (.pair (.slice T_api_Atom) (.pair (.slice T_api_Atom) T_api_Atom)))) : evFn (EN k [(8, ⟨.unit, .bool, law06_fixed k⟩), (9, ⟨(.pair (.slice T_api_Atom) (.slice T_api_Atom)), .bool, ref06_Same k⟩), (10, ⟨(.slice T_api_Atom), (.slice T_api_Atom), atoms_Norm k⟩), (11, ⟨(.slice T_api_Atom), (.slice T_api_Atom), ref06_Norm k⟩), (12, ⟨(.slice T_api_Atom), .bool, atoms_May k⟩), (13, ⟨(.slice T_api_Atom), .bool, ref06_May k⟩), (14, ⟨(.pair (.slice T_api_Atom) (.slice T_api_Atom)), (.slice T_api_Atom), atoms_Union k⟩), (15, ⟨(.pair (.slice T_api_Atom) (.slice T_api_Atom)), (.slice T_api_Atom), ref06_Union k⟩), (16, ⟨(.pair (.slice T_api_Atom) (.slice T_api_Atom)), .bool, atoms_Within k⟩), (17, ⟨(.pair (.slice T_api_Atom) (.slice T_api_Atom)), .bool, ref06_Within k⟩), (18, ⟨(.pair (.slice T_api_Atom) T_api_Atom), .bool, atoms_Has k⟩), (19, ⟨(.pair (.slice T_api_Atom) T_api_Atom), .bool, ref06_Has k⟩), (20, ⟨(.pair (.slice T_api_Atom) (.int .i64)), (.slice T_api_Atom), atoms_Rename k⟩), (21, ⟨(.pair (.slice T_api_Atom) (.int .i64)), (.slice T_api_Atom), ref06_Rename k⟩), (22, ⟨(.slice T_api_Atom), .str, atoms_Text k⟩), (23, ⟨(.slice T_api_Atom), .str, ref06_Text k⟩)]) 6 Tryd.f3 [] (.pair (.slice T_api_Atom) (.pair (.slice T_api_Atom) T_api_Atom)) .bool x = law06_AtomsTells k x := by kernel_rfl
theorem law06_AtomsTells_spec (k : Nat) : SpecOk Tryd.prog GG 3 ⟨(.pair (.slice T_api_Atom) (.pair (.slice T_api_Atom) T_api_Atom)), .bool, law06_AtomsTells k⟩ :=
  fn_spec (envOk (E := EN k [(8, ⟨.unit, .bool, law06_fixed k⟩), (9, ⟨(.pair (.slice T_api_Atom) (.slice T_api_Atom)), .bool, ref06_Same k⟩), (10, ⟨(.slice T_api_Atom), (.slice T_api_Atom), atoms_Norm k⟩), (11, ⟨(.slice T_api_Atom), (.slice T_api_Atom), ref06_Norm k⟩), (12, ⟨(.slice T_api_Atom), .bool, atoms_May k⟩), (13, ⟨(.slice T_api_Atom), .bool, ref06_May k⟩), (14, ⟨(.pair (.slice T_api_Atom) (.slice T_api_Atom)), (.slice T_api_Atom), atoms_Union k⟩), (15, ⟨(.pair (.slice T_api_Atom) (.slice T_api_Atom)), (.slice T_api_Atom), ref06_Union k⟩), (16, ⟨(.pair (.slice T_api_Atom) (.slice T_api_Atom)), .bool, atoms_Within k⟩), (17, ⟨(.pair (.slice T_api_Atom) (.slice T_api_Atom)), .bool, ref06_Within k⟩), (18, ⟨(.pair (.slice T_api_Atom) T_api_Atom), .bool, atoms_Has k⟩), (19, ⟨(.pair (.slice T_api_Atom) T_api_Atom), .bool, ref06_Has k⟩), (20, ⟨(.pair (.slice T_api_Atom) (.int .i64)), (.slice T_api_Atom), atoms_Rename k⟩), (21, ⟨(.pair (.slice T_api_Atom) (.int .i64)), (.slice T_api_Atom), ref06_Rename k⟩), (22, ⟨(.slice T_api_Atom), .str, atoms_Text k⟩), (23, ⟨(.slice T_api_Atom), .str, ref06_Text k⟩)]) tabOk (.cons (law06_fixed_spec k) f8_at f8_ok <| .cons (ref06_Same_spec k) f9_at f9_ok <| .cons (atoms_Norm_spec k) f10_at f10_ok <| .cons (ref06_Norm_spec k) f11_at f11_ok <| .cons (atoms_May_spec k) f12_at f12_ok <| .cons (ref06_May_spec k) f13_at f13_ok <| .cons (atoms_Union_spec k) f14_at f14_ok <| .cons (ref06_Union_spec k) f15_at f15_ok <| .cons (atoms_Within_spec k) f16_at f16_ok <| .cons (ref06_Within_spec k) f17_at f17_ok <| .cons (atoms_Has_spec k) f18_at f18_ok <| .cons (ref06_Has_spec k) f19_at f19_ok <| .cons (atoms_Rename_spec k) f20_at f20_ok <| .cons (ref06_Rename_spec k) f21_at f21_ok <| .cons (atoms_Text_spec k) f22_at f22_ok <| .cons (ref06_Text_spec k) f23_at f23_ok <| .nil) codesOk mixedOk ggKeep (hi := inplOk)) f3_at (fun x => (law06_AtomsTells_eq k x).symm)
noncomputable def law06_AtomsUnion : (k : Nat) → (Ty.D (.pair (.slice T_api_Atom) (.pair (.slice T_api_Atom) (.slice T_api_Atom)))) → Option (Ty.D .bool) := fun (k : Nat) (x : (T_api_Atom.slice.pair (T_api_Atom.slice.pair T_api_Atom.slice)).D) => P.bind (law06_fixed k PUnit.unit) fun (r : Bool) => P.cond (P.not r) (P.bind (law06_fixed k PUnit.unit) fun (r : Bool) => some r) (P.cond (P.ilt ((100 : Int)) (P.len x.fst)) (P.bind (law06_fixed k PUnit.unit) fun (r : Bool) => some r) (P.cond (P.ilt ((100 : Int)) (P.len x.snd.fst)) (P.bind (law06_fixed k PUnit.unit) fun (r : Bool) => some r) (P.cond (P.ilt ((100 : Int)) (P.len x.snd.snd)) (P.bind (law06_fixed k PUnit.unit) fun (r : Bool) => some r) (P.bind (atoms_May k x.fst) fun (r : Bool) => P.cond (P.not r) (P.bind (law06_fixed k PUnit.unit) fun (r : Bool) => some r) (P.bind (atoms_May k x.snd.fst) fun (r : Bool) => P.cond (P.not r) (P.bind (law06_fixed k PUnit.unit) fun (r : Bool) => some r) (P.bind (atoms_May k x.snd.snd) fun (r : Bool) => P.cond (P.not r) (P.bind (law06_fixed k PUnit.unit) fun (r : Bool) => some r) (P.bind (atoms_Union k (x.fst, x.snd.fst)) fun (r : List (Int × Int)) => P.bind (atoms_May k r) fun (r_1 : Bool) => P.cond (P.not r_1) (some false) (P.bind (atoms_Within k (x.fst, r)) fun (r_2 : Bool) => P.cond (P.not r_2) (some false) (P.bind (atoms_Within k (x.snd.fst, r)) fun (r_3 : Bool) => P.cond (P.not r_3) (some false) (P.bind (atoms_Union k (x.snd.fst, x.fst)) fun (r_4 : List (Int × Int)) => P.bind (ref06_Same k (r, r_4)) fun (r_5 : Bool) => P.cond (P.not r_5) (some false) (P.bind (atoms_Union k (r, x.fst)) fun (r_6 : List (Int × Int)) => P.bind (ref06_Same k (r, r_6)) fun (r_7 : Bool) => P.cond (P.not r_7) (some false) (P.bind (atoms_Within k (x.fst, x.snd.snd)) fun (r_8 : Bool) => P.cond r_8 (P.bind (atoms_Within k (x.snd.fst, x.snd.snd)) fun (r_9 : Bool) => P.cond r_9 (P.bind (atoms_Within k (r, x.snd.snd)) fun (r_10 : Bool) => P.cond (P.not r_10) (some false) (P.bind (atoms_Union k (r, x.snd.snd)) fun (r : List (Int × Int)) => P.bind (atoms_Union k (x.snd.fst, x.snd.snd)) fun (r_11 : List (Int × Int)) => P.bind (atoms_Union k (x.fst, r_11)) fun (r_12 : List (Int × Int)) => P.bind (ref06_Same k (r, r_12)) fun (r : Bool) => P.cond r (P.bind (atoms_Within k (x.fst, x.snd.fst)) fun (r : Bool) => P.cond r (P.bind (atoms_Within k (x.snd.fst, x.fst)) fun (r : Bool) => P.bind (ref06_Same k (x.fst, x.snd.fst)) fun (r_13 : Bool) => some (P.beq r r_13)) (P.bind (ref06_Same k (x.fst, x.snd.fst)) fun (r : Bool) => some (P.beq false r))) (some false))) (P.bind (atoms_Union k (r, x.snd.snd)) fun (r : List (Int × Int)) => P.bind (atoms_Union k (x.snd.fst, x.snd.snd)) fun (r_10 : List (Int × Int)) => P.bind (atoms_Union k (x.fst, r_10)) fun (r_11 : List (Int × Int)) => P.bind (ref06_Same k (r, r_11)) fun (r : Bool) => P.cond r (P.bind (atoms_Within k (x.fst, x.snd.fst)) fun (r : Bool) => P.cond r (P.bind (atoms_Within k (x.snd.fst, x.fst)) fun (r : Bool) => P.bind (ref06_Same k (x.fst, x.snd.fst)) fun (r_12 : Bool) => some (P.beq r r_12)) (P.bind (ref06_Same k (x.fst, x.snd.fst)) fun (r : Bool) => some (P.beq false r))) (some false))) (P.bind (atoms_Union k (r, x.snd.snd)) fun (r : List (Int × Int)) => P.bind (atoms_Union k (x.snd.fst, x.snd.snd)) fun (r_9 : List (Int × Int)) => P.bind (atoms_Union k (x.fst, r_9)) fun (r_10 : List (Int × Int)) => P.bind (ref06_Same k (r, r_10)) fun (r : Bool) => P.cond r (P.bind (atoms_Within k (x.fst, x.snd.fst)) fun (r : Bool) => P.cond r (P.bind (atoms_Within k (x.snd.fst, x.fst)) fun (r : Bool) => P.bind (ref06_Same k (x.fst, x.snd.fst)) fun (r_11 : Bool) => some (P.beq r r_11)) (P.bind (ref06_Same k (x.fst, x.snd.fst)) fun (r : Bool) => some (P.beq false r))) (some false))))))))))))))
theorem law06_AtomsUnion_eq (k : Nat) (x : (Ty.D (.pair (.slice T_api_Atom) (.pair (.slice T_api_Atom) (.slice T_api_Atom))))) : evFn (EN k [(8, ⟨.unit, .bool, law06_fixed k⟩), (9, ⟨(.pair (.slice T_api_Atom) (.slice T_api_Atom)), .bool, ref06_Same k⟩), (12, ⟨(.slice T_api_Atom), .bool, atoms_May k⟩), (14, ⟨(.pair (.slice T_api_Atom) (.slice T_api_Atom)), (.slice T_api_Atom), atoms_Union k⟩), (16, ⟨(.pair (.slice T_api_Atom) (.slice T_api_Atom)), .bool, atoms_Within k⟩)]) 6 Tryd.f4 [] (.pair (.slice T_api_Atom) (.pair (.slice T_api_Atom) (.slice T_api_Atom))) .bool x = law06_AtomsUnion k x := by kernel_rfl
theorem law06_AtomsUnion_spec (k : Nat) : SpecOk Tryd.prog GG 4 ⟨(.pair (.slice T_api_Atom) (.pair (.slice T_api_Atom) (.slice T_api_Atom))), .bool, law06_AtomsUnion k⟩ :=
  fn_spec (envOk (E := EN k [(8, ⟨.unit, .bool, law06_fixed k⟩), (9, ⟨(.pair (.slice T_api_Atom) (.slice T_api_Atom)), .bool, ref06_Same k⟩), (12, ⟨(.slice T_api_Atom), .bool, atoms_May k⟩), (14, ⟨(.pair (.slice T_api_Atom) (.slice T_api_Atom)), (.slice T_api_Atom), atoms_Union k⟩), (16, ⟨(.pair (.slice T_api_Atom) (.slice T_api_Atom)), .bool, atoms_Within k⟩)]) tabOk (.cons (law06_fixed_spec k) f8_at f8_ok <| .cons (ref06_Same_spec k) f9_at f9_ok <| .cons (atoms_May_spec k) f12_at f12_ok <| .cons (atoms_Union_spec k) f14_at f14_ok <| .cons (atoms_Within_spec k) f16_at f16_ok <| .nil) codesOk mixedOk ggKeep (hi := inplOk)) f4_at (fun x => (law06_AtomsUnion_eq k x).symm)
noncomputable def law06_AtomsRenamed : (k : Nat) → (Ty.D (.pair (.slice T_api_Atom) (.pair (.slice T_api_Atom) (.int .i64)))) → Option (Ty.D .bool) := fun (k : Nat) (x : (T_api_Atom.slice.pair (T_api_Atom.slice.pair (Ty.int IntKind.i64))).D) => P.bind (law06_fixed k PUnit.unit) fun (r : Bool) => P.cond (P.not r) (P.bind (law06_fixed k PUnit.unit) fun (r : Bool) => some r) (P.cond (P.ilt ((100 : Int)) (P.len x.fst)) (P.bind (law06_fixed k PUnit.unit) fun (r : Bool) => some r) (P.cond (P.ilt ((100 : Int)) (P.len x.snd.fst)) (P.bind (law06_fixed k PUnit.unit) fun (r : Bool) => some r) (P.bind (atoms_May k x.fst) fun (r : Bool) => P.cond (P.not r) (P.bind (law06_fixed k PUnit.unit) fun (r : Bool) => some r) (P.bind (atoms_May k x.snd.fst) fun (r : Bool) => P.cond (P.not r) (P.bind (law06_fixed k PUnit.unit) fun (r : Bool) => some r) (P.bind (atoms_Rename k (x.fst, x.snd.snd)) fun (r : List (Int × Int)) => P.bind (atoms_Rename k (x.snd.fst, x.snd.snd)) fun (r_1 : List (Int × Int)) => P.bind (atoms_Has k (r, (4 : Int), x.snd.snd)) fun (r_2 : Bool) => P.cond r_2 (some false) (P.bind (atoms_Rename k (r, x.snd.snd)) fun (r_3 : List (Int × Int)) => P.bind (ref06_Same k (r_3, r)) fun (r_4 : Bool) => P.cond (P.not r_4) (some false) (P.bind (atoms_May k r) fun (r_5 : Bool) => P.cond (P.not r_5) (some false) (P.bind (atoms_Within k (x.fst, x.snd.fst)) fun (r_6 : Bool) => P.cond r_6 (P.bind (atoms_Within k (r, r_1)) fun (r_7 : Bool) => P.cond (P.not r_7) (some false) (P.bind (atoms_Union k (x.fst, x.snd.fst)) fun (r_8 : List (Int × Int)) => P.bind (atoms_Rename k (r_8, x.snd.snd)) fun (r_9 : List (Int × Int)) => P.bind (atoms_Union k (r, r_1)) fun (r_10 : List (Int × Int)) => P.bind (ref06_Same k (r_9, r_10)) fun (r_11 : Bool) => P.cond r_11 (P.bind (atoms_Has k (x.fst, (4 : Int), x.snd.snd)) fun (r_12 : Bool) => P.cond r_12 (some true) (P.bind (ref06_Same k (r, x.fst)) fun (r : Bool) => some r)) (some false))) (P.bind (atoms_Union k (x.fst, x.snd.fst)) fun (r_7 : List (Int × Int)) => P.bind (atoms_Rename k (r_7, x.snd.snd)) fun (r_8 : List (Int × Int)) => P.bind (atoms_Union k (r, r_1)) fun (r_9 : List (Int × Int)) => P.bind (ref06_Same k (r_8, r_9)) fun (r_10 : Bool) => P.cond r_10 (P.bind (atoms_Has k (x.fst, (4 : Int), x.snd.snd)) fun (r_11 : Bool) => P.cond r_11 (some true) (P.bind (ref06_Same k (r, x.fst)) fun (r : Bool) => some r)) (some false))))))))))
theorem law06_AtomsRenamed_eq (k : Nat) (x : (Ty.D (.pair (.slice T_api_Atom) (.pair (.slice T_api_Atom) (.int .i64))))) : evFn (EN k [(8, ⟨.unit, .bool, law06_fixed k⟩), (9, ⟨(.pair (.slice T_api_Atom) (.slice T_api_Atom)), .bool, ref06_Same k⟩), (12, ⟨(.slice T_api_Atom), .bool, atoms_May k⟩), (14, ⟨(.pair (.slice T_api_Atom) (.slice T_api_Atom)), (.slice T_api_Atom), atoms_Union k⟩), (16, ⟨(.pair (.slice T_api_Atom) (.slice T_api_Atom)), .bool, atoms_Within k⟩), (18, ⟨(.pair (.slice T_api_Atom) T_api_Atom), .bool, atoms_Has k⟩), (20, ⟨(.pair (.slice T_api_Atom) (.int .i64)), (.slice T_api_Atom), atoms_Rename k⟩)]) 6 Tryd.f5 [] (.pair (.slice T_api_Atom) (.pair (.slice T_api_Atom) (.int .i64))) .bool x = law06_AtomsRenamed k x := by kernel_rfl
theorem law06_AtomsRenamed_spec (k : Nat) : SpecOk Tryd.prog GG 5 ⟨(.pair (.slice T_api_Atom) (.pair (.slice T_api_Atom) (.int .i64))), .bool, law06_AtomsRenamed k⟩ :=
  fn_spec (envOk (E := EN k [(8, ⟨.unit, .bool, law06_fixed k⟩), (9, ⟨(.pair (.slice T_api_Atom) (.slice T_api_Atom)), .bool, ref06_Same k⟩), (12, ⟨(.slice T_api_Atom), .bool, atoms_May k⟩), (14, ⟨(.pair (.slice T_api_Atom) (.slice T_api_Atom)), (.slice T_api_Atom), atoms_Union k⟩), (16, ⟨(.pair (.slice T_api_Atom) (.slice T_api_Atom)), .bool, atoms_Within k⟩), (18, ⟨(.pair (.slice T_api_Atom) T_api_Atom), .bool, atoms_Has k⟩), (20, ⟨(.pair (.slice T_api_Atom) (.int .i64)), (.slice T_api_Atom), atoms_Rename k⟩)]) tabOk (.cons (law06_fixed_spec k) f8_at f8_ok <| .cons (ref06_Same_spec k) f9_at f9_ok <| .cons (atoms_May_spec k) f12_at f12_ok <| .cons (atoms_Union_spec k) f14_at f14_ok <| .cons (atoms_Within_spec k) f16_at f16_ok <| .cons (atoms_Has_spec k) f18_at f18_ok <| .cons (atoms_Rename_spec k) f20_at f20_ok <| .nil) codesOk mixedOk ggKeep (hi := inplOk)) f5_at (fun x => (law06_AtomsRenamed_eq k x).symm)
noncomputable def law06_AtomsTexts : (k : Nat) → (Ty.D (.pair (.slice T_api_Atom) (.slice T_api_Atom))) → Option (Ty.D .bool) := fun (k : Nat) (x : (T_api_Atom.slice.pair T_api_Atom.slice).D) => P.bind (law06_fixed k PUnit.unit) fun (r : Bool) => P.cond (P.not r) (P.bind (law06_fixed k PUnit.unit) fun (r : Bool) => some r) (P.cond (P.ilt ((100 : Int)) (P.len x.fst)) (P.bind (law06_fixed k PUnit.unit) fun (r : Bool) => some r) (P.cond (P.ilt ((100 : Int)) (P.len x.snd)) (P.bind (law06_fixed k PUnit.unit) fun (r : Bool) => some r) (P.bind (atoms_May k x.fst) fun (r : Bool) => P.cond (P.not r) (P.bind (law06_fixed k PUnit.unit) fun (r : Bool) => some r) (P.bind (atoms_May k x.snd) fun (r : Bool) => P.cond (P.not r) (P.bind (law06_fixed k PUnit.unit) fun (r : Bool) => some r) (P.bind (atoms_Text k x.fst) fun (r : ByteArray) => P.bind (atoms_Text k x.snd) fun (r_1 : ByteArray) => P.bind (ref06_Same k (x.fst, x.snd)) fun (r_2 : Bool) => some (P.beq (P.seq r r_1) r_2))))))
theorem law06_AtomsTexts_eq (k : Nat) (x : (Ty.D (.pair (.slice T_api_Atom) (.slice T_api_Atom)))) : evFn (EN k [(8, ⟨.unit, .bool, law06_fixed k⟩), (9, ⟨(.pair (.slice T_api_Atom) (.slice T_api_Atom)), .bool, ref06_Same k⟩), (12, ⟨(.slice T_api_Atom), .bool, atoms_May k⟩), (22, ⟨(.slice T_api_Atom), .str, atoms_Text k⟩)]) 6 Tryd.f6 [] (.pair (.slice T_api_Atom) (.slice T_api_Atom)) .bool x = law06_AtomsTexts k x := by kernel_rfl
theorem law06_AtomsTexts_spec (k : Nat) : SpecOk Tryd.prog GG 6 ⟨(.pair (.slice T_api_Atom) (.slice T_api_Atom)), .bool, law06_AtomsTexts k⟩ :=
  fn_spec (envOk (E := EN k [(8, ⟨.unit, .bool, law06_fixed k⟩), (9, ⟨(.pair (.slice T_api_Atom) (.slice T_api_Atom)), .bool, ref06_Same k⟩), (12, ⟨(.slice T_api_Atom), .bool, atoms_May k⟩), (22, ⟨(.slice T_api_Atom), .str, atoms_Text k⟩)]) tabOk (.cons (law06_fixed_spec k) f8_at f8_ok <| .cons (ref06_Same_spec k) f9_at f9_ok <| .cons (atoms_May_spec k) f12_at f12_ok <| .cons (atoms_Text_spec k) f22_at f22_ok <| .nil) codesOk mixedOk ggKeep (hi := inplOk)) f6_at (fun x => (law06_AtomsTexts_eq k x).symm)
noncomputable def law06_AtomsIn : (k : Nat) → (Ty.D (.pair (.slice T_api_Atom) (.pair (.slice T_api_Atom) T_api_Atom))) → Option (Ty.D .bool) := fun (k : Nat) (x : (T_api_Atom.slice.pair (T_api_Atom.slice.pair T_api_Atom)).D) => P.bind (law06_fixed k PUnit.unit) fun (r : Bool) => P.cond (P.not r) (P.bind (law06_fixed k PUnit.unit) fun (r : Bool) => some r) (P.cond (P.ilt ((100 : Int)) (P.len x.fst)) (P.bind (law06_fixed k PUnit.unit) fun (r : Bool) => some r) (P.cond (P.ilt ((100 : Int)) (P.len x.snd.fst)) (P.bind (law06_fixed k PUnit.unit) fun (r : Bool) => some r) (P.bind (atoms_May k x.fst) fun (r : Bool) => P.cond (P.not r) (P.bind (law06_fixed k PUnit.unit) fun (r : Bool) => some r) (P.bind (atoms_May k x.snd.fst) fun (r : Bool) => P.cond (P.not r) (P.bind (law06_fixed k PUnit.unit) fun (r : Bool) => some r) (P.bind (atoms_May k [x.snd.snd]) fun (r : Bool) => P.cond (P.not r) (P.bind (law06_fixed k PUnit.unit) fun (r : Bool) => some r) (P.bind (atoms_Union k (x.fst, x.snd.fst)) fun (r : List (Int × Int)) => P.bind (atoms_Has k (r, x.snd.snd)) fun (r_1 : Bool) => P.bind (atoms_Has k (x.fst, x.snd.snd)) fun (r_2 : Bool) => P.cond r_2 (P.cond (P.beq r_1 true) (P.bind (atoms_Within k ([x.snd.snd], x.fst)) fun (r_3 : Bool) => P.bind (atoms_Has k (x.fst, x.snd.snd)) fun (r_4 : Bool) => P.cond (P.beq r_3 r_4) (P.bind (atoms_Within k (r, x.snd.fst)) fun (r : Bool) => P.bind (atoms_Within k (x.fst, x.snd.fst)) fun (r_5 : Bool) => some (P.beq r r_5)) (some false)) (some false)) (P.bind (atoms_Has k (x.snd.fst, x.snd.snd)) fun (r_3 : Bool) => P.cond (P.beq r_1 r_3) (P.bind (atoms_Within k ([x.snd.snd], x.fst)) fun (r_4 : Bool) => P.bind (atoms_Has k (x.fst, x.snd.snd)) fun (r_5 : Bool) => P.cond (P.beq r_4 r_5) (P.bind (atoms_Within k (r, x.snd.fst)) fun (r : Bool) => P.bind (atoms_Within k (x.fst, x.snd.fst)) fun (r_6 : Bool) => some (P.beq r r_6)) (some false)) (some false))))))))
theorem law06_AtomsIn_eq (k : Nat) (x : (Ty.D (.pair (.slice T_api_Atom) (.pair (.slice T_api_Atom) T_api_Atom)))) : evFn (EN k [(8, ⟨.unit, .bool, law06_fixed k⟩), (12, ⟨(.slice T_api_Atom), .bool, atoms_May k⟩), (14, ⟨(.pair (.slice T_api_Atom) (.slice T_api_Atom)), (.slice T_api_Atom), atoms_Union k⟩), (16, ⟨(.pair (.slice T_api_Atom) (.slice T_api_Atom)), .bool, atoms_Within k⟩), (18, ⟨(.pair (.slice T_api_Atom) T_api_Atom), .bool, atoms_Has k⟩)]) 6 Tryd.f7 [] (.pair (.slice T_api_Atom) (.pair (.slice T_api_Atom) T_api_Atom)) .bool x = law06_AtomsIn k x := by kernel_rfl
theorem law06_AtomsIn_spec (k : Nat) : SpecOk Tryd.prog GG 7 ⟨(.pair (.slice T_api_Atom) (.pair (.slice T_api_Atom) T_api_Atom)), .bool, law06_AtomsIn k⟩ :=
  fn_spec (envOk (E := EN k [(8, ⟨.unit, .bool, law06_fixed k⟩), (12, ⟨(.slice T_api_Atom), .bool, atoms_May k⟩), (14, ⟨(.pair (.slice T_api_Atom) (.slice T_api_Atom)), (.slice T_api_Atom), atoms_Union k⟩), (16, ⟨(.pair (.slice T_api_Atom) (.slice T_api_Atom)), .bool, atoms_Within k⟩), (18, ⟨(.pair (.slice T_api_Atom) T_api_Atom), .bool, atoms_Has k⟩)]) tabOk (.cons (law06_fixed_spec k) f8_at f8_ok <| .cons (atoms_May_spec k) f12_at f12_ok <| .cons (atoms_Union_spec k) f14_at f14_ok <| .cons (atoms_Within_spec k) f16_at f16_ok <| .cons (atoms_Has_spec k) f18_at f18_ok <| .nil) codesOk mixedOk ggKeep (hi := inplOk)) f7_at (fun x => (law06_AtomsIn_eq k x).symm)
end
section
/- Plain lemmas on what the evaluator's functions are made of. -/
namespace Go.PL
open Go.PG

theorem cond_eq {α : Type} (b : Bool) (x y : α) : P.cond b x y = if b = true then x else y := by cases b <;> rfl
theorem cond_true {α : Type} (x y : α) : P.cond true x y = x := rfl
theorem cond_false {α : Type} (x y : α) : P.cond false x y = y := rfl
theorem bind_some {α β : Type} (a : α) (f : α → Option β) : P.bind (some a) f = f a := rfl
theorem bind_none {α β : Type} (f : α → Option β) : P.bind none f = none := rfl
theorem either_inl {α β γ : Type} (f : α → γ) (g : β → γ) (a : α) : P.either f g (.inl a) = f a := rfl
theorem either_inr {α β γ : Type} (f : α → γ) (g : β → γ) (b : β) : P.either f g (.inr b) = g b := rfl

/-! ### loops -/
section
variable {τ ρ : Type} {f : τ → Option (τ ⊕ ρ)}
theorem iter_succ (k : Nat) (x : τ) : P.iter (k + 1) f x = match f x with
    | none => none
    | some (.inl y) => P.iter k f y
    | some (.inr r) => some r := rfl
theorem iter_step {k : Nat} {x y : τ} (hk : 0 < k) (h : f x = some (.inl y)) : P.iter k f x = P.iter (k - 1) f y := by
  obtain ⟨k, rfl⟩ : ∃ m, k = m + 1 := ⟨k - 1, by omega⟩
  rw [iter_succ, h]; rfl
theorem iter_done {k : Nat} {x : τ} {r : ρ} (hk : 0 < k) (h : f x = some (.inr r)) : P.iter k f x = some r := by
  obtain ⟨k, rfl⟩ : ∃ m, k = m + 1 := ⟨k - 1, by omega⟩
  rw [iter_succ, h]
/-- A loop that goes through states told ahead. -/
theorem iter_run (s : Nat → τ) (r : ρ) : ∀ (n i k : Nat), n < k → (∀ j, j < n → f (s (i + j)) = some (.inl (s (i + j + 1)))) → f (s (i + n)) = some (.inr r) → P.iter k f (s i) = some r := by
  intro n
  induction n with
  | zero => intro i k hk _ he; exact iter_done (by omega) (by simpa using he)
  | succ n ih =>
    intro i k hk hs he
    rw [iter_step (x := s i) (y := s (i + 1)) (by omega) (by simpa using hs 0 (by omega))]
    refine ih (i + 1) (k - 1) (by omega) (fun j hj => ?_) (by rw [show i + 1 + n = i + (n + 1) by omega]; exact he)
    have := hs (j + 1) (by omega)
    rw [show i + 1 + j = i + (j + 1) by omega]
    exact this
/-- A count from i up to n that ends where something is found. -/
theorem iter_find {f : Int → Option (Int ⊕ ρ)} {n : Nat} {e : ρ} (g : Nat → Option ρ) (hs : ∀ i : Nat, i < n → f (i : Int) = some (match g i with
    | none => .inl ((i + 1 : Nat) : Int)
    | some r => .inr r)) (he : f (n : Int) = some (.inr e)) : ∀ (d i k : Nat), i + d = n → d < k → P.iter k f (i : Int) = some (((List.range' i d).findSome? g).getD e) := by
  intro d
  induction d with
  | zero =>
    intro i k hi hk
    obtain rfl : i = n := by omega
    exact iter_done (by omega) he
  | succ d ih =>
    intro i k hi hk
    have h := hs i (by omega)
    rw [List.range'_succ, List.findSome?_cons]
    cases q : g i with
    | none =>
      rw [q] at h
      simp only at h ⊢
      rw [iter_step (by omega) h]
      exact ih (i + 1) (k - 1) (by omega) (by omega)
    | some r =>
      rw [q] at h
      simp only at h
      rw [iter_done (by omega) h]
      rfl
theorem iter_find0 {f : Int → Option (Int ⊕ ρ)} {n : Nat} {e : ρ} (g : Nat → Option ρ) (k : Nat) (hs : ∀ i : Nat, i < n → f (i : Int) = some (match g i with
    | none => .inl ((i + 1 : Nat) : Int)
    | some r => .inr r)) (he : f (n : Int) = some (.inr e)) (hk : n < k) : P.iter k f 0 = some (((List.range n).findSome? g).getD e) := by
  have := iter_find g hs he n 0 k (by omega) hk
  rw [List.range_eq_range']
  exact this
theorem iter_all {f : Int → Option (Int ⊕ ρ)} {n : Nat} {e r : ρ} (p : Nat → Prop) [DecidablePred p] (k : Nat) (hs : ∀ i : Nat, i < n → f (i : Int) = some (if p i then .inl ((i + 1 : Nat) : Int) else .inr r)) (he : f (n : Int) = some (.inr e)) (hk : n < k) :
    P.iter k f 0 = some (if ∀ i, i < n → p i then e else r) := by
  rw [iter_find0 (n := n) (e := e) (fun i => if p i then none else some r) k (fun i hi => by rw [hs i hi]; by_cases h : p i <;> simp [h]) he hk]
  by_cases h : ∀ i, i < n → p i
  · rw [if_pos h]
    have : (List.range n).findSome? (fun i => if p i then none else some r) = none := by
      rw [List.findSome?_eq_none_iff]
      intro i hi
      simp [h i (List.mem_range.1 hi)]
    rw [this]; rfl
  · rw [if_neg h]
    have hh : ∃ i, i < n ∧ ¬ p i := by
      apply Classical.byContradiction
      intro q
      exact h fun i hi => Classical.byContradiction fun z => q ⟨i, hi, z⟩
    obtain ⟨i, hi, hp⟩ := hh
    have : ∃ y, (List.range n).findSome? (fun i => if p i then none else some r) = some y := by
      rw [← Option.isSome_iff_exists, List.findSome?_isSome_iff]
      exact ⟨i, List.mem_range.2 hi, by simp [hp]⟩
    obtain ⟨y, hy⟩ := this
    rw [hy]
    obtain ⟨j, _, hj⟩ := List.exists_of_findSome?_eq_some hy
    by_cases q : p j
    · simp [q] at hj
    · simp [q] at hj; simp [hj]
/-- A count that carries a state, and goes all the way. -/
theorem iter_fold {σ : Type} {f : Int × σ → Option ((Int × σ) ⊕ ρ)} {n : Nat} {e : σ → ρ} (g : σ → Nat → σ) (inv : Nat → σ → Prop) (k : Nat) (s0 : σ) (h0 : inv 0 s0)
    (hs : ∀ (i : Nat) s, i < n → inv i s → f ((i : Int), s) = some (.inl (((i + 1 : Nat) : Int), g s i)) ∧ inv (i + 1) (g s i)) (he : ∀ s, inv n s → f ((n : Int), s) = some (.inr (e s))) (hk : n < k) :
    P.iter k f (0, s0) = some (e ((List.range n).foldl g s0)) ∧ inv n ((List.range n).foldl g s0) := by
  have key : ∀ (d i k : Nat) (s : σ), i + d = n → d < k → inv i s → P.iter k f ((i : Int), s) = some (e ((List.range' i d).foldl g s)) ∧ inv n ((List.range' i d).foldl g s) := by
    intro d
    induction d with
    | zero =>
      intro i k s hi hk hv
      obtain rfl : i = n := by omega
      exact ⟨iter_done (by omega) (he s hv), hv⟩
    | succ d ih =>
      intro i k s hi hk hv
      obtain ⟨h1, h2⟩ := hs i s (by omega) hv
      rw [iter_step (by omega) h1, List.range'_succ, List.foldl_cons]
      exact ih (i + 1) (k - 1) _ (by omega) (by omega) h2
  have := key n 0 k s0 (by omega) hk h0
  rw [List.range_eq_range']
  exact this
end

/-! ### numbers -/
theorem ieq_iff {x y : Int} : P.ieq x y = true ↔ x = y := by simp [P.ieq]
theorem ieq_eq (x y : Int) : P.ieq x y = decide (x = y) := by rw [Bool.eq_iff_iff]; simp [P.ieq]
theorem ilt_iff {x y : Int} : P.ilt x y = true ↔ x < y := by simp [P.ilt]
theorem ile_iff {x y : Int} : P.ile x y = true ↔ x ≤ y := by simp [P.ile]
theorem inb_iff {i n : Int} : P.inb i n = true ↔ 0 ≤ i ∧ i < n := by simp [P.inb]
theorem wrap_i64 {x : Int} (h0 : -9223372036854775808 ≤ x) (h1 : x < 9223372036854775808) : P.wrap .i64 x = x := by
  show IntKind.i64.wrap x = x
  simp only [IntKind.wrap, IntKind.bits, IntKind.signed]
  simp
  omega
theorem wrap_nat {n : Nat} (h : n < 9223372036854775808) : P.wrap .i64 (n : Int) = n := wrap_i64 (by omega) (by omega)
theorem wrap_succ {n : Nat} (h : n + 1 < 9223372036854775808) : P.wrap .i64 (P.add (n : Int) 1) = ((n + 1 : Nat) : Int) := by
  rw [wrap_i64 (by simp [P.add]; omega) (by simp [P.add]; omega)]; simp [P.add]
theorem wrap_u64 {x : Int} (h0 : 0 ≤ x) (h1 : x < 18446744073709551616) : P.wrap .u64 x = x := by
  show IntKind.u64.wrap x = x
  simp only [IntKind.wrap, IntKind.bits, IntKind.signed]
  simp
  omega

theorem wrap_pred {n : Nat} (h0 : 0 < n) (h : n < 9223372036854775808) : P.wrap .i64 (P.sub (n : Int) 1) = ((n - 1 : Nat) : Int) := by
  rw [wrap_i64 (by simp [P.sub]; omega) (by simp [P.sub]; omega)]; simp [P.sub]; omega
theorem not_iff {b : Bool} : P.not b = true ↔ ¬ b = true := by cases b <;> simp [P.not]
theorem and_iff {a b : Bool} : P.and a b = true ↔ a = true ∧ b = true := by simp [P.and]
theorem beq_iff {a b : Bool} : P.beq a b = true ↔ a = b := by simp [P.beq]
theorem cut_iff {l u n : Int} : P.cut l u n = true ↔ 0 ≤ l ∧ l ≤ u ∧ u ≤ n := by simp [P.cut, and_assoc]
theorem room_iff {n : Int} {b : Nat} : P.room n b = true ↔ n.toNat * b ≤ 140737488355328 := by simp [P.room]

theorem room_nat {a b n : Nat} : P.room (P.add (a : Int) (b : Int)) n = true ↔ (a + b) * n ≤ 140737488355328 := by
  rw [room_iff]
  have : (P.add (a : Int) (b : Int)).toNat = a + b := by simp [P.add]; omega
  rw [this]
/-! ### lists -/
theorem get_nat {α : Type} (l : List α) (i : Nat) (d : α) : P.get l (i : Int) d = l.getD i d := by simp [P.get]
theorem get_lt {α : Type} (l : List α) {i : Nat} (h : i < l.length) (d : α) : P.get l (i : Int) d = l[i] := by simp [P.get, h]
theorem len_eq {α : Type} (l : List α) : P.len l = (l.length : Int) := rfl

/-! ### strings -/
def ltS (a b : ByteArray) : Prop := a.data.toList < b.data.toList
instance (a b : ByteArray) : Decidable (ltS a b) := inferInstanceAs (Decidable (a.data.toList < b.data.toList))
theorem ba_ext {a b : ByteArray} (h : a.data.toList = b.data.toList) : a = b := by
  cases a; cases b; simp at h; simp [h]
theorem bytesLess_eq : ∀ (x y : List UInt8), Op.bytesLess x y = decide (x < y)
  | [], [] => by simp [Op.bytesLess]
  | _ :: _, [] => by simp [Op.bytesLess]
  | [], _ :: _ => by simp [Op.bytesLess]
  | a :: x, b :: y => by
    rw [Op.bytesLess, bytesLess_eq x y]
    simp only [List.cons_lt_cons_iff]
    by_cases h1 : a < b <;> by_cases h2 : a = b <;> by_cases h3 : x < y <;> simp [h1, h2, h3]
theorem slt_iff {a b : ByteArray} : P.slt a b = true ↔ ltS a b := by
  unfold P.slt ltS
  rw [bytesLess_eq, ByteArray.toList_eq, ByteArray.toList_eq]
  simp
theorem seq_iff {a b : ByteArray} : P.seq a b = true ↔ a = b := by
  unfold P.seq
  rw [ByteArray.toList_eq, ByteArray.toList_eq]
  simp only [beq_iff_eq]
  exact ⟨ba_ext, fun h => by rw [h]⟩
theorem sle_iff {a b : ByteArray} : P.sle a b = true ↔ (ltS a b ∨ a = b) := by
  have h1 : Op.bytesLess a.toList b.toList = P.slt a b := rfl
  have h2 : (a.toList == b.toList) = P.seq a b := rfl
  unfold P.sle
  rw [h1, h2, Bool.or_eq_true, slt_iff, seq_iff]
theorem ltS_irrefl (a : ByteArray) : ¬ ltS a a := List.lt_irrefl _
theorem ltS_trans {a b c : ByteArray} (h1 : ltS a b) (h2 : ltS b c) : ltS a c := List.lt_trans h1 h2
theorem ltS_asymm {a b : ByteArray} (h1 : ltS a b) : ¬ ltS b a := List.lt_asymm h1
theorem ltS_tri (a b : ByteArray) : ltS a b ∨ a = b ∨ ltS b a := by
  by_cases h1 : ltS a b
  · exact .inl h1
  · by_cases h2 : ltS b a
    · exact .inr (.inr h2)
    · exact .inr (.inl (ba_ext (List.le_antisymm (List.not_lt.1 h2) (List.not_lt.1 h1))))
theorem cmp_spec : ∀ (x y : List UInt8), (Lib.compareBytes x y < 0 ↔ x < y) ∧ (Lib.compareBytes x y = 0 ↔ x = y) ∧ -1 ≤ Lib.compareBytes x y ∧ Lib.compareBytes x y ≤ 1
  | [], [] => by simp [Lib.compareBytes]
  | [], _ :: _ => by simp [Lib.compareBytes]
  | _ :: _, [] => by simp [Lib.compareBytes]
  | a :: x, b :: y => by
    have ih := cmp_spec x y
    simp only [Lib.compareBytes, List.cons_lt_cons_iff, List.cons.injEq]
    by_cases h1 : a < b
    · have : a ≠ b := fun h => by subst h; exact absurd h1 (by simp)
      simp [h1, this]
    · by_cases h2 : b < a
      · have : a ≠ b := fun h => by subst h; exact absurd h2 (by simp)
        simp [h1, h2, this]
      · have : a = b := UInt8.le_antisymm (UInt8.not_lt.1 h2) (UInt8.not_lt.1 h1)
        subst this
        simp only [h1, if_false, true_and, false_or]
        exact ih
def cmpS (a b : ByteArray) : Int := Lib.compareBytes a.data.toList b.data.toList
theorem cmpS_lt {a b : ByteArray} : cmpS a b < 0 ↔ ltS a b := (cmp_spec _ _).1
theorem cmpS_eq {a b : ByteArray} : cmpS a b = 0 ↔ a = b := (cmp_spec _ _).2.1.trans ⟨ba_ext, fun h => by rw [h]⟩
end Go.PL
end
section
/- The text of atoms.Norm, in parts. -/
open Go Go.PG Go.PL
set_option linter.unusedVariables false
namespace Go.PL
noncomputable def compactT (k : Nat) (ys : List (Int × Int)) : Option (List (Int × Int)) := P.cond (P.ilt (P.len ys) ((2 : Int))) (some ys) (P.bind (P.iter k (fun (y : Int × List (Int × Int)) => P.cond (P.ilt y.fst (P.len y.snd)) (P.cond (P.inb y.fst (P.len y.snd)) (P.cond (P.inb (P.wrap IntKind.i64 (P.sub y.fst ((1 : Int)))) (P.len y.snd)) (P.cond (P.and (P.ieq (P.get y.snd y.fst ((0 : Int), (0 : Int))).fst (P.get y.snd (P.wrap IntKind.i64 (P.sub y.fst ((1 : Int)))) ((0 : Int), (0 : Int))).fst) (P.ieq (P.get y.snd y.fst ((0 : Int), (0 : Int))).snd (P.get y.snd (P.wrap IntKind.i64 (P.sub y.fst ((1 : Int)))) ((0 : Int), (0 : Int))).snd)) (P.cond (P.cut y.fst (P.len y.snd) (P.len y.snd)) (P.bind (P.iter k (fun (y_1 : Int × Int × List (Int × Int)) => P.cond (P.ilt y_1.snd.fst (P.sub (P.len y.snd) y.fst)) (P.cond (P.inb y_1.snd.fst (P.sub (P.len y.snd) y.fst)) (P.cond (P.inb (P.wrap IntKind.i64 (P.sub y_1.snd.fst ((1 : Int)))) (P.sub (P.len y.snd) y.fst)) (P.cond (P.not (P.and (P.ieq (P.get y_1.snd.snd (P.add y.fst y_1.snd.fst) ((0 : Int), (0 : Int))).fst (P.get y_1.snd.snd (P.add y.fst (P.wrap IntKind.i64 (P.sub y_1.snd.fst ((1 : Int))))) ((0 : Int), (0 : Int))).fst) (P.ieq (P.get y_1.snd.snd (P.add y.fst y_1.snd.fst) ((0 : Int), (0 : Int))).snd (P.get y_1.snd.snd (P.add y.fst (P.wrap IntKind.i64 (P.sub y_1.snd.fst ((1 : Int))))) ((0 : Int), (0 : Int))).snd))) (P.cond (P.inb y_1.snd.fst (P.sub (P.len y.snd) y.fst)) (P.cond (P.inb y_1.fst (P.len y_1.snd.snd)) (some (Sum.inl (P.wrap IntKind.i64 (P.add y_1.fst ((1 : Int))), P.wrap IntKind.i64 (P.add y_1.snd.fst ((1 : Int))), P.set y_1.snd.snd y_1.fst (P.get y_1.snd.snd (P.add y.fst y_1.snd.fst) ((0 : Int), (0 : Int)))))) none) none) (some (Sum.inl (y_1.fst, P.wrap IntKind.i64 (P.add y_1.snd.fst ((1 : Int))), y_1.snd.snd)))) none) none) (some (Sum.inr (Sum.inl (y_1.fst, y_1.snd.snd))))) (y.fst, (1 : Int), y.snd)) (P.either (fun (z : Int × List (Int × Int)) => P.cond (P.cut z.fst (P.len z.snd) (P.len z.snd)) (P.cond (P.cut ((0 : Int)) z.fst (P.len (P.fill z.snd z.fst (P.sub (P.len z.snd) z.fst) ((0 : Int), (0 : Int))))) (some (Sum.inr (Sum.inr (P.sub_ (P.fill z.snd z.fst (P.sub (P.len z.snd) z.fst) ((0 : Int), (0 : Int))) ((0 : Int)) z.fst)))) none) none) fun (r : Int × List (Int × Int) ⊕ List (Int × Int) ⊕ List (Int × Int)) => some r)) none) (some (Sum.inl (P.wrap IntKind.i64 (P.add y.fst ((1 : Int))), y.snd)))) none) none) (some (Sum.inr (Sum.inl y.snd)))) ((1 : Int), ys)) (P.either (fun (z : List (Int × Int)) => some z) fun (r : List (Int × Int)) => some r))
noncomputable def shiftT (k : Nat) (s : Int) (x : List (Int × Int)) : Option (List (Int × Int)) := (P.bind (P.iter k (fun (y : Int × Int × List (Int × Int)) => P.cond (P.ilt y.snd.fst (P.len y.snd.snd)) (P.cond (P.inb y.snd.fst (P.len y.snd.snd)) (P.bind (atoms_Norm_1 k (P.get y.snd.snd y.snd.fst ((0 : Int), (0 : Int)))) fun (r : Bool) => P.cond (P.not r) (P.cond (P.inb y.fst (P.len y.snd.snd)) (some (Sum.inl (P.wrap IntKind.i64 (P.add y.fst ((1 : Int))), P.wrap IntKind.i64 (P.add y.snd.fst ((1 : Int))), P.set y.snd.snd y.fst (P.get y.snd.snd y.snd.fst ((0 : Int), (0 : Int)))))) none) (some (Sum.inl (y.fst, P.wrap IntKind.i64 (P.add y.snd.fst ((1 : Int))), y.snd.snd)))) none) (some (Sum.inr (Sum.inl (y.fst, y.snd.snd))))) (s, P.wrap IntKind.i64 (P.add s ((1 : Int))), P.app [] x)) (P.either (fun (z : Int × List (Int × Int)) => P.cond (P.cut z.fst (P.len z.snd) (P.len z.snd)) (P.cond (P.cut ((0 : Int)) z.fst (P.len (P.fill z.snd z.fst (P.sub (P.len z.snd) z.fst) ((0 : Int), (0 : Int))))) (P.bind (sortF (P.sub_ (P.fill z.snd z.fst (P.sub (P.len z.snd) z.fst) ((0 : Int), (0 : Int))) ((0 : Int)) z.fst)) fun (ys : List (Int × Int)) => compactT k ys) none) none) fun (r : List (Int × Int)) => some r))
noncomputable def delT (k : Nat) (x : List (Int × Int)) : Option (List (Int × Int)) := (P.bind (P.iter k (fun (y : Int) => P.cond (P.ilt y (P.len (P.app [] x))) (P.cond (P.inb y (P.len (P.app [] x))) (P.bind (atoms_Norm_1 k (P.get (P.app [] x) y ((0 : Int), (0 : Int)))) fun (r : Bool) => P.cond r (P.map (fun (r : List (Int × Int)) => Sum.inr (Sum.inr r)) (P.cond (P.ieq y ((-1 : Int))) (P.bind (sortF (P.app [] x)) fun (ys : List (Int × Int)) => compactT k ys) (shiftT k y x))) (some (Sum.inl (P.wrap IntKind.i64 (P.add y ((1 : Int))))))) none) (some (Sum.inr (Sum.inl PUnit.unit)))) ((0 : Int))) (P.either (fun (z : PUnit) => P.cond (P.ieq ((-1 : Int)) ((-1 : Int))) (P.bind (sortF (P.app [] x)) fun (ys : List (Int × Int)) => compactT k ys) (shiftT k (-1 : Int) x)) fun (r : List (Int × Int)) => some r))
noncomputable def nilT (k : Nat) : Option (List (Int × Int)) := (P.bind (P.iter k (fun (y : Int) => P.cond (P.ilt y ((0 : Int))) none (some (Sum.inr (Sum.inl PUnit.unit)))) ((0 : Int))) (P.either (fun (z : PUnit) => P.cond (P.ieq ((-1 : Int)) ((-1 : Int))) (P.bind (sortF []) fun (x : List (Int × Int)) => P.cond (P.ilt ((0 : Int)) ((2 : Int))) (some []) (P.bind (P.iter k (fun (y : Int × List (Int × Int)) => P.cond (P.ilt y.fst ((0 : Int))) none (some (Sum.inr (Sum.inl [])))) ((1 : Int), [])) (P.either (fun (z : List (Int × Int)) => some []) fun (r : List (Int × Int)) => some r))) (P.bind (P.iter k (fun (y : Int × Int × List (Int × Int)) => P.cond (P.ilt y.snd.fst ((0 : Int))) none (some (Sum.inr (Sum.inl (y.fst, []))))) ((-1 : Int), P.wrap IntKind.i64 (P.add ((-1 : Int)) ((1 : Int))), [])) (P.either (fun (z : Int × List (Int × Int)) => P.cond (P.cut z.fst ((0 : Int)) ((0 : Int))) (P.cond (P.cut ((0 : Int)) z.fst ((0 : Int))) (P.bind (sortF []) fun (x : List (Int × Int)) => P.cond (P.ilt ((0 : Int)) ((2 : Int))) (some []) (P.bind (P.iter k (fun (y : Int × List (Int × Int)) => P.cond (P.ilt y.fst ((0 : Int))) none (some (Sum.inr (Sum.inl [])))) ((1 : Int), [])) (P.either (fun (z : List (Int × Int)) => some []) fun (r : List (Int × Int)) => some r))) none) none) fun (r : List (Int × Int)) => some r))) fun (r : List (Int × Int)) => some r))
theorem norm_form (k : Nat) (x : List (Int × Int)) : atoms_Norm k x = P.cond (P.ilt ((0 : Int)) (P.len x)) (P.cond (P.not true) (nilT k) (P.cond (P.room (P.add (P.len (P.nil (Int × Int))) (P.len x)) 16) (delT k x) none)) (P.amb (nilT k) (P.cond (P.room (P.add (P.len (P.nil (Int × Int))) (P.len x)) 16) (delT k x) none)) := rfl
end Go.PL
end
section
/- Lists of atoms: what atoms.Norm computes. -/
open Go Go.PG Go.PL
set_option linter.unusedVariables false
namespace Go.PL
abbrev At := Int × Int
abbrev dA : At := (0, 0)
def ltA (a b : At) : Prop := a.1 < b.1 ∨ (a.1 = b.1 ∧ a.2 < b.2)
instance (a b : At) : Decidable (ltA a b) := by unfold ltA; exact inferInstance
def RightA (a : At) : Prop := (3 ≤ a.1 ∧ a.1 ≤ 5 ∧ 0 ≤ a.2) ∨ ((a.1 = 0 ∨ a.1 = 1 ∨ a.1 = 2 ∨ a.1 = 6) ∧ a.2 = 0)
instance (a : At) : Decidable (RightA a) := by unfold RightA; exact inferInstance
theorem ltA_irrefl (a : At) : ¬ ltA a a := by unfold ltA; omega
theorem ltA_trans {a b c : At} (h1 : ltA a b) (h2 : ltA b c) : ltA a c := by unfold ltA at *; omega
theorem ltA_tri (a b : At) : ltA a b ∨ a = b ∨ ltA b a := by
  obtain ⟨a1, a2⟩ := a; obtain ⟨b1, b2⟩ := b
  simp only [ltA, Prod.mk.injEq]; omega
theorem ltA_asymm {a b : At} (h1 : ltA a b) : ¬ ltA b a := fun h2 => ltA_irrefl _ (ltA_trans h1 h2)

/-- Lists that rise. -/
abbrev Rises (l : List At) : Prop := l.Pairwise ltA
theorem rises_ext : ∀ {l m : List At}, Rises l → Rises m → (∀ z, z ∈ l ↔ z ∈ m) → l = m := by
  intro l
  induction l with
  | nil =>
    intro m _ _ h
    cases m with
    | nil => rfl
    | cons b m => exact absurd ((h b).2 (by simp)) (by simp)
  | cons a l ih =>
    intro m hl hm h
    cases m with
    | nil => exact absurd ((h a).1 (by simp)) (by simp)
    | cons b m =>
      obtain ⟨h1, h2⟩ := List.pairwise_cons.1 hl
      obtain ⟨h3, h4⟩ := List.pairwise_cons.1 hm
      have hab : a = b := by
        rcases List.mem_cons.1 ((h a).1 (by simp)) with q | q
        · exact q
        · rcases List.mem_cons.1 ((h b).2 (by simp)) with q' | q'
          · exact q'.symm
          · exact absurd (ltA_trans (h3 a q) (h1 b q')) (ltA_irrefl _)
      subst hab
      congr 1
      refine ih h2 h4 fun z => ⟨fun hz => ?_, fun hz => ?_⟩
      · rcases List.mem_cons.1 ((h z).1 (List.mem_cons_of_mem _ hz)) with q | q
        · subst q; exact absurd (h1 z hz) (ltA_irrefl _)
        · exact q
      · rcases List.mem_cons.1 ((h z).2 (List.mem_cons_of_mem _ hz)) with q | q
        · subst q; exact absurd (h3 z hz) (ltA_irrefl _)
        · exact q

/-! ### Norm, as the document says it -/
/-- An atom ahead of the first greater one. -/
def insA (x : At) : List At → List At
  | [] => [x]
  | y :: l => if ltA x y then x :: y :: l else y :: insA x l
theorem mem_insA {x z : At} : ∀ {l : List At}, z ∈ insA x l ↔ z = x ∨ z ∈ l := by
  intro l
  induction l with
  | nil => simp [insA]
  | cons y l ih =>
    simp only [insA]
    split
    · simp
    · simp only [List.mem_cons, ih]
      constructor
      · rintro (h | h | h) <;> simp [h]
      · rintro (h | h | h) <;> simp [h]
theorem rises_insA {x : At} : ∀ {l : List At}, Rises l → x ∉ l → Rises (insA x l) := by
  intro l
  induction l with
  | nil => intro _ _; simp [insA, Rises]
  | cons y l ih =>
    intro h hx
    obtain ⟨h1, h2⟩ := List.pairwise_cons.1 h
    simp only [insA]
    split
    · rename_i q
      refine List.pairwise_cons.2 ⟨fun z hz => ?_, h⟩
      rcases List.mem_cons.1 hz with rfl | hz
      · exact q
      · exact ltA_trans q (h1 z hz)
    · rename_i q
      refine List.pairwise_cons.2 ⟨fun z hz => ?_, ih h2 fun z => hx (List.mem_cons_of_mem _ z)⟩
      rcases mem_insA.1 hz with rfl | hz
      · rcases ltA_tri z y with z' | z' | z'
        · exact absurd z' q
        · subst z'; exact absurd (by simp) hx
        · exact z'
      · exact h1 z hz
def addA (l : List At) (x : At) : List At := if RightA x ∧ x ∉ l then insA x l else l
def norm (l : List At) : List At := l.foldl addA []
theorem mem_addA {l : List At} {x z : At} : z ∈ addA l x ↔ z ∈ l ∨ (z = x ∧ RightA x) := by
  unfold addA
  split
  · rename_i h
    rw [mem_insA]
    constructor
    · rintro (q | q)
      · exact .inr ⟨q, h.1⟩
      · exact .inl q
    · rintro (q | q)
      · exact .inr q
      · exact .inl q.1
  · rename_i h
    constructor
    · exact .inl
    · rintro (q | ⟨rfl, q⟩)
      · exact q
      · apply Classical.byContradiction
        intro z'
        exact h ⟨q, z'⟩
theorem rises_addA {l : List At} {x : At} (h : Rises l) : Rises (addA l x) := by
  unfold addA
  split
  · rename_i q; exact rises_insA h q.2
  · exact h
theorem fold_spec : ∀ (l acc : List At), Rises acc → Rises (l.foldl addA acc) ∧ ∀ z, z ∈ l.foldl addA acc ↔ z ∈ acc ∨ (z ∈ l ∧ RightA z) := by
  intro l
  induction l with
  | nil => intro acc h; exact ⟨h, fun z => by simp⟩
  | cons x l ih =>
    intro acc h
    obtain ⟨h1, h2⟩ := ih (addA acc x) (rises_addA h)
    refine ⟨h1, fun z => ?_⟩
    rw [List.foldl_cons, h2, mem_addA, List.mem_cons]
    constructor
    · rintro ((q | ⟨rfl, q⟩) | q)
      · exact .inl q
      · exact .inr ⟨.inl rfl, q⟩
      · exact .inr ⟨.inr q.1, q.2⟩
    · rintro (q | ⟨rfl | q, q'⟩)
      · exact .inl (.inl q)
      · exact .inl (.inr ⟨rfl, q'⟩)
      · exact .inr ⟨q, q'⟩
theorem norm_rises (l : List At) : Rises (norm l) := (fold_spec l [] List.Pairwise.nil).1
theorem mem_norm {l : List At} {z : At} : z ∈ norm l ↔ z ∈ l ∧ RightA z := by
  unfold norm
  rw [(fold_spec l [] List.Pairwise.nil).2]
  simp
/-- May a list be? -/
def Canon (l : List At) : Prop := Rises l ∧ ∀ z, z ∈ l → RightA z
theorem norm_canon (l : List At) : Canon (norm l) := ⟨norm_rises l, fun z h => (mem_norm.1 h).2⟩
theorem norm_eq {l m : List At} (h : Canon m) (hm : ∀ z, RightA z → (z ∈ m ↔ z ∈ l)) : norm l = m :=
  rises_ext (norm_rises l) h.1 fun z => by
    rw [mem_norm]
    exact ⟨fun q => (hm z q.2).2 q.1, fun q => ⟨(hm z (h.2 z q)).1 q, h.2 z q⟩⟩
theorem canon_iff {l : List At} : l = norm l ↔ Canon l := ⟨fun h => by rw [h]; exact norm_canon l, fun h => (norm_eq h fun _ _ => Iff.rfl).symm⟩
theorem norm_nil : norm [] = [] := rfl

/-! ### the order of atoms, sorting -/
def K : Nat := 18446744073709551616
def leB (a b : At) : Bool := decide (a.1 < b.1 ∨ (a.1 = b.1 ∧ a.2 ≤ b.2))
theorem leB_iff {a b : At} : leB a b = true ↔ ¬ ltA b a := by
  unfold leB ltA; rw [decide_eq_true_eq]; omega
theorem sortF_spec (l : List At) (hlen : l.length < 4611686018427387904) : ∃ s, sortF l = some s ∧ s.length = l.length ∧ (∀ z, z ∈ s ↔ z ∈ l) ∧ s.Pairwise (fun a b => ¬ ltA b a) := by
  refine ⟨l.mergeSort leB, by unfold sortF SortD.sortF; rw [if_pos hlen]; rfl, by simp, fun z => List.mem_mergeSort, ?_⟩
  have h := List.pairwise_mergeSort (le := leB) (fun a b c h1 h2 => by
    rw [leB_iff] at *
    intro h3
    rcases ltA_tri a b with q | q | q
    · exact h2 (ltA_trans h3 q)
    · subst q; exact h2 h3
    · exact h1 q) (fun a b => by
    rw [Bool.or_eq_true, leB_iff, leB_iff]
    by_cases q : ltA b a
    · exact .inr (ltA_asymm q)
    · exact .inl q) l
  exact h.imp fun q => leB_iff.1 q
end Go.PL
end
section
/- atoms.Norm computes norm. -/
open Go Go.PG Go.PL
set_option linter.unusedVariables false
namespace Go.PL
theorem at_right (k : Nat) (a : At) : atoms_right k a = some (decide (RightA a)) := by
  obtain ⟨a, b⟩ := a
  unfold atoms_right
  dsimp only
  simp only [cond_eq, ieq_iff]
  repeat' split
  all_goals
    rw [Option.some.injEq, Bool.eq_iff_iff, decide_eq_true_eq]
    simp only [RightA, ieq_iff, ile_iff, Bool.false_eq_true, false_iff]
    omega
theorem at_bad (k : Nat) (a : At) : atoms_Norm_1 k a = some (!decide (RightA a)) := by
  unfold atoms_Norm_1
  rw [at_right, bind_some]
  rfl

theorem getD_set_ne {l : List At} {i j : Nat} (h : i ≠ j) (x : At) : (l.set i x).getD j dA = l.getD j dA := by
  simp [List.getD_eq_getElem?_getD, List.getElem?_set_ne h]
theorem take_set_succ {l : List At} {i : Nat} (h : i < l.length) (x : At) : (l.set i x).take (i + 1) = l.take i ++ [x] := by
  rw [List.take_add_one, List.take_set_of_le (Nat.le_refl i)]
  simp [h]
theorem drop_getD {l : List At} {j : Nat} (h : j < l.length) : l.drop j = l.getD j dA :: l.drop (j + 1) := by
  rw [List.drop_eq_getElem_cons h]
  simp [List.getD_eq_getElem?_getD, h]
theorem take_getD {l : List At} {j : Nat} (h : j < l.length) : l.take (j + 1) = l.take j ++ [l.getD j dA] := by
  rw [List.take_add_one, List.getElem?_eq_getElem h]
  simp [List.getD_eq_getElem?_getD, h]

/-- A loop that keeps, in place, what is good. -/
theorem iter_keep {ρ : Type} {f : Int × Int × List At → Option ((Int × Int × List At) ⊕ ((Int × List At) ⊕ ρ))} (p : At → Bool) (n : Nat) (x : List At) (hn : x.length = n)
    (hs : ∀ (i j : Nat) (xs : List At), i ≤ j → j < n → xs.length = n → xs.getD j dA = x.getD j dA → f ((i : Int), (j : Int), xs) = some (.inl (if p (x.getD j dA) = true then (((i + 1 : Nat) : Int), ((j + 1 : Nat) : Int), xs.set i (x.getD j dA)) else ((i : Int), ((j + 1 : Nat) : Int), xs))))
    (he : ∀ (i : Nat) (xs : List At), i ≤ n → xs.length = n → f ((i : Int), (n : Int), xs) = some (.inr (.inl ((i : Int), xs)))) :
    ∀ (d i j k : Nat) (xs : List At), j + d = n → d < k → i ≤ j → xs.length = n → (∀ m, j ≤ m → xs.getD m dA = x.getD m dA) →
      ∃ (i' : Nat) (xs' : List At), P.iter k f ((i : Int), (j : Int), xs) = some (.inl ((i' : Int), xs')) ∧ i' ≤ n ∧ xs'.length = n ∧ xs'.take i' = xs.take i ++ (x.drop j).filter p := by
  intro d
  induction d with
  | zero =>
    intro i j k xs hj hk hij hl hm
    obtain rfl : j = n := by omega
    refine ⟨i, xs, iter_done (by omega) (he i xs (by omega) hl), by omega, hl, ?_⟩
    rw [List.drop_eq_nil_of_le (by omega)]
    simp
  | succ d ih =>
    intro i j k xs hj hk hij hl hm
    have hstep := hs i j xs hij (by omega) hl (hm j (Nat.le_refl _))
    rw [drop_getD (l := x) (j := j) (by omega)]
    by_cases hp : p (x.getD j dA) = true
    · rw [if_pos hp] at hstep
      obtain ⟨i', xs', h1, h2, h3, h4⟩ := ih (i + 1) (j + 1) (k - 1) (xs.set i (x.getD j dA)) (by omega) (by omega) (by omega) (by simpa using hl) (fun m hm' => by rw [getD_set_ne (by omega)]; exact hm m (by omega))
      refine ⟨i', xs', by rw [iter_step (by omega) hstep]; exact h1, h2, h3, ?_⟩
      rw [h4, take_set_succ (by omega), List.filter_cons_of_pos hp]
      simp
    · rw [if_neg hp] at hstep
      obtain ⟨i', xs', h1, h2, h3, h4⟩ := ih i (j + 1) (k - 1) xs (by omega) (by omega) (by omega) hl (fun m hm' => hm m (by omega))
      refine ⟨i', xs', by rw [iter_step (by omega) hstep]; exact h1, h2, h3, ?_⟩
      rw [h4, List.filter_cons_of_neg hp]

theorem sub_fill {l : List At} {i : Nat} (h : i ≤ l.length) (m : Int) (z : At) : P.sub_ (P.fill l (i : Int) m z) 0 (i : Int) = l.take i := by
  simp only [P.sub_, P.fill, Int.toNat_natCast, Int.toNat_zero, List.drop_zero]
  rw [List.append_assoc, List.take_append_of_le_length (by rw [List.length_take]; omega), List.take_take]
  simp
theorem len_fill {l : List At} {i : Nat} (h : i ≤ l.length) (z : At) : P.len (P.fill l (i : Int) (P.sub (P.len l) (i : Int)) z) = (l.length : Int) := by
  simp only [P.len, P.fill, P.sub, Int.toNat_natCast]
  have : ((l.length : Int) - (i : Int)).toNat = l.length - i := by omega
  rw [this]
  simp
  omega

noncomputable def rest (l : List At) : Option (List At) := P.bind (sortF l) (compactT K)
def good (a : At) : Bool := decide (RightA a)

theorem nil_spec (hc : ∀ ys : List At, ys = [] → True) : nilT K = some [] := by
  have s0 : sortF [] = some [] := by
    obtain ⟨s, h1, h2, _⟩ := sortF_spec [] (by simp)
    rw [h1]
    rw [List.length_eq_zero_iff.1 h2]
  unfold nilT
  rw [iter_done (r := .inl ()) (by unfold K; omega) (by rfl), bind_some, either_inl]
  simp only [s0, bind_some, cond_eq, ieq_iff, ilt_iff]
  rfl

theorem shift_spec (x : List At) (hx : x.length < 9223372036854775808) (i : Nat) (hi : i < x.length) : shiftT K (i : Int) x = rest (x.take i ++ (x.drop (i + 1)).filter good) := by
  unfold shiftT
  have happ : P.app [] x = x := rfl
  rw [happ, wrap_succ (by omega)]
  have fin : ∀ f : Int × Int × List At → Option ((Int × Int × List At) ⊕ ((Int × List At) ⊕ List At)),
      (∀ (i j : Nat) (xs : List At), i ≤ j → j < x.length → xs.length = x.length → xs.getD j dA = x.getD j dA → f ((i : Int), (j : Int), xs) = some (.inl (if good (x.getD j dA) = true then (((i + 1 : Nat) : Int), ((j + 1 : Nat) : Int), xs.set i (x.getD j dA)) else ((i : Int), ((j + 1 : Nat) : Int), xs)))) →
      (∀ (i : Nat) (xs : List At), i ≤ x.length → xs.length = x.length → f ((i : Int), (x.length : Int), xs) = some (.inr (.inl ((i : Int), xs)))) →
      P.bind (P.iter K f ((i : Int), ((i + 1 : Nat) : Int), x)) (P.either (fun (z : Int × List (Int × Int)) => P.cond (P.cut z.fst (P.len z.snd) (P.len z.snd)) (P.cond (P.cut ((0 : Int)) z.fst (P.len (P.fill z.snd z.fst (P.sub (P.len z.snd) z.fst) ((0 : Int), (0 : Int))))) (P.bind (sortF (P.sub_ (P.fill z.snd z.fst (P.sub (P.len z.snd) z.fst) ((0 : Int), (0 : Int))) ((0 : Int)) z.fst)) fun (ys : List (Int × Int)) => compactT K ys) none) none) fun (r : List (Int × Int)) => some r) = rest (x.take i ++ (x.drop (i + 1)).filter good) := by
    intro f hs he
    obtain ⟨i', xs', h1, h2, h3, h4⟩ := iter_keep good x.length x rfl hs he (x.length - (i + 1)) i (i + 1) K x (by omega) (by unfold K; omega) (by omega) rfl (fun _ _ => rfl)
    rw [h1, bind_some, either_inl]
    simp only [cond_eq, cut_iff, len_eq]
    rw [if_pos ⟨by omega, by omega, by omega⟩]
    have hl := len_fill (l := xs') (i := i') (by omega) ((0 : Int), (0 : Int))
    simp only [len_eq] at hl
    rw [if_pos ⟨by omega, by omega, by rw [hl]; omega⟩, sub_fill (by omega), h4]
    rfl
  refine fin _ (fun i j xs hij hj hl hg => ?_) (fun i xs hi hl => ?_)
  · simp only [cond_eq, ilt_iff, inb_iff, len_eq, get_nat, hl]
    rw [if_pos (by omega), if_pos ⟨by omega, by omega⟩, hg, at_bad, bind_some, wrap_succ (by omega), wrap_succ (by omega)]
    by_cases q : RightA (x.getD j dA)
    · rw [if_pos (show P.not (!decide (RightA (x.getD j dA))) = true by simp only [P.not, decide_eq_true q]; rfl), if_pos ⟨by omega, by omega⟩, if_pos (show good (x.getD j dA) = true from decide_eq_true q)]
      rfl
    · rw [if_neg (show ¬ P.not (!decide (RightA (x.getD j dA))) = true by simp only [P.not, decide_eq_false q]; decide), if_neg (show ¬ good (x.getD j dA) = true by unfold good; rw [decide_eq_false q]; decide)]
  · simp only [cond_eq, ilt_iff, len_eq, hl]
    rw [if_neg (by omega)]

theorem del_spec (x : List At) (hx : x.length < 9223372036854775808) : delT K x = rest (x.filter good) := by
  have happ : P.app [] x = x := rfl
  unfold delT
  rw [happ]
  have key : ∀ (d i k : Nat) (f : Int → Option (Int ⊕ (Unit ⊕ List At))), i + d = x.length → d < k → (∀ a, a ∈ x.take i → good a = true) →
      (∀ j : Nat, j < x.length → f (j : Int) = if good (x.getD j dA) = true then some (.inl ((j + 1 : Nat) : Int)) else P.map (fun r => Sum.inr (Sum.inr r)) (shiftT K (j : Int) x)) → f (x.length : Int) = some (.inr (.inl ())) →
      P.bind (P.iter k f (i : Int)) (P.either (fun (z : Unit) => P.bind (sortF x) fun ys => compactT K ys) fun r => some r) = rest (x.filter good) := by
    intro d
    induction d with
    | zero =>
      intro i k f hi hk hg hs he
      obtain rfl : i = x.length := by omega
      rw [iter_done (by omega) he, bind_some, either_inl]
      rw [List.take_length] at hg
      rw [List.filter_eq_self.2 hg]
      rfl
    | succ d ih =>
      intro i k f hi hk hg hs he
      have h := hs i (by omega)
      by_cases q : good (x.getD i dA) = true
      · rw [if_pos q] at h
        rw [iter_step (by omega) h]
        refine ih (i + 1) (k - 1) f (by omega) (by omega) (fun a ha => ?_) hs he
        rw [take_getD (by omega), List.mem_append, List.mem_singleton] at ha
        rcases ha with ha | ha
        · exact hg a ha
        · rw [ha]; exact q
      · rw [if_neg q, shift_spec x hx i (by omega)] at h
        have e : x.take i ++ (x.drop (i + 1)).filter good = x.filter good := by
          conv => rhs; rw [← List.take_append_drop i x, List.filter_append, List.filter_eq_self.2 hg, drop_getD (l := x) (j := i) (by omega), List.filter_cons_of_neg q]
        rw [e] at h
        cases hr : rest (x.filter good) with
        | none =>
          rw [hr] at h
          obtain ⟨m, rfl⟩ : ∃ m, k = m + 1 := ⟨k - 1, by omega⟩
          rw [iter_succ, h]
          rfl
        | some r =>
          rw [hr] at h
          rw [iter_done (by omega) h, bind_some, either_inr]
  rw [show P.ieq ((-1 : Int)) ((-1 : Int)) = true from by decide]
  simp only [cond_true]
  refine key x.length 0 K _ (by omega) (by unfold K; omega) (by simp) (fun j hj => ?_) ?_
  · simp only [cond_eq, ilt_iff, inb_iff, len_eq, get_nat, ieq_iff]
    rw [if_pos (by omega), if_pos ⟨by omega, by omega⟩, at_bad, bind_some, wrap_succ (by omega), if_neg (show ¬ (j : Int) = -1 by omega)]
    by_cases q : RightA (x.getD j dA)
    · rw [if_neg (by rw [decide_eq_true q]; decide), if_pos (show good (x.getD j dA) = true from decide_eq_true q)]
    · rw [if_pos (by rw [decide_eq_false q]; rfl), if_neg (show ¬ good (x.getD j dA) = true by unfold good; rw [decide_eq_false q]; decide)]
  · simp only [cond_eq, ilt_iff, len_eq]
    rw [if_neg (by omega)]
end Go.PL
end
section
/- atoms.Norm computes norm: the last part. -/
open Go Go.PG Go.PL
set_option linter.unusedVariables false
namespace Go.PL
abbrev Sorted (ys : List At) : Prop := ys.Pairwise fun a b => ¬ ltA b a
theorem sorted_at {ys : List At} (h : Sorted ys) {i j : Nat} (hij : i ≤ j) (hj : j < ys.length) : ¬ ltA (ys.getD j dA) (ys.getD i dA) := by
  rcases Nat.lt_or_eq_of_le hij with q | q
  · have := List.pairwise_iff_getElem.1 h i j (by omega) hj q
    simpa [List.getD_eq_getElem?_getD, hj, show i < ys.length by omega] using this
  · subst q; exact ltA_irrefl _
theorem mem_take_getD {ys : List At} {m : Nat} {z : At} (h : z ∈ ys.take m) : ∃ i, i < m ∧ i < ys.length ∧ z = ys.getD i dA := by
  obtain ⟨i, hi, rfl⟩ := List.getElem_of_mem h
  rw [List.length_take] at hi
  exact ⟨i, by omega, by omega, by rw [List.getElem_take]; simp [List.getD_eq_getElem?_getD, show i < ys.length by omega]⟩
theorem getD_mem_take {ys : List At} {i m : Nat} (h : i < m) (hi : i < ys.length) : ys.getD i dA ∈ ys.take m := by
  have : (ys.take m)[i]? = some (ys.getD i dA) := by rw [List.getElem?_take, if_pos h]; simp [List.getD_eq_getElem?_getD, hi]
  exact List.mem_of_getElem? this

theorem iter_dd {ρ : Type} {f : Int × Int × List At → Option ((Int × Int × List At) ⊕ ((Int × List At) ⊕ ρ))} (ys : List At) (hsrt : Sorted ys) (j0 : Nat) (hj0 : 0 < j0) (hjn : j0 < ys.length)
    (hs : ∀ (i k2 : Nat) (xs : List At), 0 < k2 → i < j0 + k2 → j0 + k2 < ys.length → xs.length = ys.length → xs.getD (j0 + k2) dA = ys.getD (j0 + k2) dA → xs.getD (j0 + (k2 - 1)) dA = ys.getD (j0 + (k2 - 1)) dA →
      f ((i : Int), (k2 : Int), xs) = some (.inl (if ys.getD (j0 + k2) dA = ys.getD (j0 + (k2 - 1)) dA then ((i : Int), ((k2 + 1 : Nat) : Int), xs) else (((i + 1 : Nat) : Int), ((k2 + 1 : Nat) : Int), xs.set i (ys.getD (j0 + k2) dA)))))
    (he : ∀ (i k2 : Nat) (xs : List At), j0 + k2 = ys.length → i ≤ ys.length → xs.length = ys.length → f ((i : Int), (k2 : Int), xs) = some (.inr (.inl ((i : Int), xs)))) :
    ∀ (d i k2 k : Nat) (xs : List At), j0 + k2 + d = ys.length → d < k → 0 < k2 → i < j0 + k2 → xs.length = ys.length → (∀ m, j0 + k2 ≤ m + 1 → xs.getD m dA = ys.getD m dA) → Rises (xs.take i) → (∀ z, z ∈ xs.take i ↔ z ∈ ys.take (j0 + k2)) →
      ∃ (i' : Nat) (xs' : List At), P.iter k f ((i : Int), (k2 : Int), xs) = some (.inl ((i' : Int), xs')) ∧ i' ≤ ys.length ∧ xs'.length = ys.length ∧ Rises (xs'.take i') ∧ ∀ z, z ∈ xs'.take i' ↔ z ∈ ys := by
  intro d
  induction d with
  | zero =>
    intro i k2 k xs hd hk h2 hi hl hm hr hz
    refine ⟨i, xs, iter_done (by omega) (he i k2 xs (by omega) (by omega) hl), by omega, hl, hr, fun z => ?_⟩
    rw [hz, List.take_of_length_le (by omega)]
  | succ d ih =>
    intro i k2 k xs hd hk h2 hi hl hm hr hz
    have hstep := hs i k2 xs h2 hi (by omega) hl (hm _ (by omega)) (hm _ (by omega))
    have hprev : ys.getD (j0 + (k2 - 1)) dA ∈ ys.take (j0 + k2) := getD_mem_take (by omega) (by omega)
    by_cases q : ys.getD (j0 + k2) dA = ys.getD (j0 + (k2 - 1)) dA
    · rw [if_pos q] at hstep
      obtain ⟨i', xs', r1, r2, r3, r4, r5⟩ := ih i (k2 + 1) (k - 1) xs (by omega) (by omega) (by omega) (by omega) hl (fun m hm' => hm m (by omega)) hr (fun z => by
        rw [hz, show j0 + (k2 + 1) = j0 + k2 + 1 by omega, take_getD (by omega), List.mem_append, List.mem_singleton]
        exact ⟨.inl, fun h => h.elim id fun h => by rw [h, q]; exact hprev⟩)
      exact ⟨i', xs', by rw [iter_step (by omega) hstep]; exact r1, r2, r3, r4, r5⟩
    · rw [if_neg q] at hstep
      have htake : (xs.set i (ys.getD (j0 + k2) dA)).take (i + 1) = xs.take i ++ [ys.getD (j0 + k2) dA] := take_set_succ (by omega) _
      obtain ⟨i', xs', r1, r2, r3, r4, r5⟩ := ih (i + 1) (k2 + 1) (k - 1) (xs.set i (ys.getD (j0 + k2) dA)) (by omega) (by omega) (by omega) (by omega) (by simpa using hl) (fun m hm' => by rw [getD_set_ne (by omega)]; exact hm m (by omega)) (by
        rw [htake]
        refine List.pairwise_append.2 ⟨hr, List.pairwise_singleton _ _, fun a ha b hb => ?_⟩
        rw [List.mem_singleton] at hb
        subst hb
        obtain ⟨m, m1, m2, rfl⟩ := mem_take_getD ((hz a).1 ha)
        have s1 := sorted_at hsrt (i := m) (j := j0 + (k2 - 1)) (by omega) (by omega)
        have s2 := sorted_at hsrt (i := j0 + (k2 - 1)) (j := j0 + k2) (by omega) (by omega)
        rcases ltA_tri (ys.getD (j0 + (k2 - 1)) dA) (ys.getD (j0 + k2) dA) with t | t | t
        · rcases ltA_tri (ys.getD m dA) (ys.getD (j0 + (k2 - 1)) dA) with u | u | u
          · exact ltA_trans u t
          · rw [u]; exact t
          · exact absurd u s1
        · exact absurd t.symm q
        · exact absurd t s2) (fun z => by
        rw [htake, show j0 + (k2 + 1) = j0 + k2 + 1 by omega, take_getD (by omega), List.mem_append, List.mem_append, hz])
      exact ⟨i', xs', by rw [iter_step (by omega) hstep]; exact r1, r2, r3, r4, r5⟩

theorem eqA_iff {a b : At} : P.and (P.ieq a.1 b.1) (P.ieq a.2 b.2) = true ↔ a = b := by
  rw [and_iff, ieq_iff, ieq_iff]
  exact ⟨fun h => Prod.ext h.1 h.2, fun h => by rw [h]; exact ⟨rfl, rfl⟩⟩

theorem rises_take {ys : List At} (hs : Sorted ys) {j : Nat} (h : Rises (ys.take j)) (hj : j < ys.length) (h0 : 0 < j) (hne : ys.getD j dA ≠ ys.getD (j - 1) dA) : Rises (ys.take (j + 1)) := by
  rw [take_getD hj]
  refine List.pairwise_append.2 ⟨h, List.pairwise_singleton _ _, fun a ha b hb => ?_⟩
  rw [List.mem_singleton] at hb
  subst hb
  obtain ⟨m, m1, m2, rfl⟩ := mem_take_getD ha
  have s1 := sorted_at hs (i := m) (j := j - 1) (by omega) (by omega)
  have s2 := sorted_at hs (i := j - 1) (j := j) (by omega) (by omega)
  rcases ltA_tri (ys.getD (j - 1) dA) (ys.getD j dA) with t | t | t
  · rcases ltA_tri (ys.getD m dA) (ys.getD (j - 1) dA) with u | u | u
    · exact ltA_trans u t
    · rw [u]; exact t
    · exact absurd u s1
  · exact absurd t.symm hne
  · exact absurd t s2

theorem compact_spec (ys : List At) (hl : ys.length < 9223372036854775808) (hsrt : Sorted ys) : ∃ r, compactT K ys = some r ∧ Rises r ∧ ∀ z, z ∈ r ↔ z ∈ ys := by
  unfold compactT
  by_cases h2 : ys.length < 2
  · refine ⟨ys, ?_, ?_, fun z => Iff.rfl⟩
    · rw [show P.ilt (P.len ys) ((2 : Int)) = true from ilt_iff.2 (by rw [len_eq]; omega)]; rfl
    · match ys, h2 with
      | [], _ => exact List.Pairwise.nil
      | [a], _ => exact List.pairwise_singleton _ _
  rw [show P.ilt (P.len ys) ((2 : Int)) = false from by rw [Bool.eq_false_iff, Ne, ilt_iff, len_eq]; omega]
  rw [cond_false]
  have key : ∀ (d j k : Nat) (f : Int × List At → Option ((Int × List At) ⊕ (List At ⊕ List At))), j + d = ys.length → d < k → 0 < j → Rises (ys.take j) →
      (∀ j : Nat, 0 < j → j < ys.length → ys.getD j dA ≠ ys.getD (j - 1) dA → f ((j : Int), ys) = some (.inl (((j + 1 : Nat) : Int), ys))) →
      (∀ j : Nat, 0 < j → j < ys.length → ys.getD j dA = ys.getD (j - 1) dA → Rises (ys.take j) → ∃ r, f ((j : Int), ys) = some (.inr (.inr r)) ∧ Rises r ∧ ∀ z, z ∈ r ↔ z ∈ ys) →
      f ((ys.length : Int), ys) = some (.inr (.inl ys)) →
      ∃ r, P.bind (P.iter k f ((j : Int), ys)) (P.either (fun (z : List At) => some z) fun r => some r) = some r ∧ Rises r ∧ ∀ z, z ∈ r ↔ z ∈ ys := by
    intro d
    induction d with
    | zero =>
      intro j k f hj hk h0 hr hs1 hs2 he
      obtain rfl : j = ys.length := by omega
      rw [List.take_length] at hr
      exact ⟨ys, by rw [iter_done (by omega) he]; rfl, hr, fun z => Iff.rfl⟩
    | succ d ih =>
      intro j k f hj hk h0 hr hs1 hs2 he
      by_cases q : ys.getD j dA = ys.getD (j - 1) dA
      · obtain ⟨r, r1, r2, r3⟩ := hs2 j h0 (by omega) q hr
        exact ⟨r, by rw [iter_done (by omega) r1]; rfl, r2, r3⟩
      · have h := hs1 j h0 (by omega) q
        obtain ⟨r, r1, r2, r3⟩ := ih (j + 1) (k - 1) f (by omega) (by omega) (by omega) (rises_take hsrt hr (by omega) h0 q) hs1 hs2 he
        exact ⟨r, by rw [iter_step (by omega) h]; exact r1, r2, r3⟩
  refine key (ys.length - 1) 1 K _ (by omega) (by unfold K; omega) (by omega) ?_ (fun j h0 hj hne => ?_) (fun j h0 hj heq hr => ?_) ?_
  · rw [show (1 : Nat) = 0 + 1 from rfl, take_getD (by omega)]; simp
  · simp only [cond_eq, ilt_iff, inb_iff, len_eq]
    rw [if_pos (by omega), if_pos ⟨by omega, by omega⟩, wrap_pred h0 (by omega), if_pos ⟨by omega, by omega⟩]
    simp only [get_nat]
    rw [if_neg (fun q => hne (eqA_iff.1 q)), wrap_succ (by omega)]
  · have inner : ∀ f : Int × Int × List At → Option ((Int × Int × List At) ⊕ ((Int × List At) ⊕ ((Int × List At) ⊕ (List At ⊕ List At)))),
        (∀ (i k2 : Nat) (xs : List At), 0 < k2 → i < j + k2 → j + k2 < ys.length → xs.length = ys.length → xs.getD (j + k2) dA = ys.getD (j + k2) dA → xs.getD (j + (k2 - 1)) dA = ys.getD (j + (k2 - 1)) dA →
          f ((i : Int), (k2 : Int), xs) = some (.inl (if ys.getD (j + k2) dA = ys.getD (j + (k2 - 1)) dA then ((i : Int), ((k2 + 1 : Nat) : Int), xs) else (((i + 1 : Nat) : Int), ((k2 + 1 : Nat) : Int), xs.set i (ys.getD (j + k2) dA))))) →
        (∀ (i k2 : Nat) (xs : List At), j + k2 = ys.length → i ≤ ys.length → xs.length = ys.length → f ((i : Int), (k2 : Int), xs) = some (.inr (.inl ((i : Int), xs)))) →
        ∃ r, P.bind (P.iter K f ((j : Int), (1 : Int), ys)) (P.either (fun (z : Int × List (Int × Int)) => P.cond (P.cut z.fst (P.len z.snd) (P.len z.snd)) (P.cond (P.cut ((0 : Int)) z.fst (P.len (P.fill z.snd z.fst (P.sub (P.len z.snd) z.fst) ((0 : Int), (0 : Int))))) (some (Sum.inr (Sum.inr (P.sub_ (P.fill z.snd z.fst (P.sub (P.len z.snd) z.fst) ((0 : Int), (0 : Int))) ((0 : Int)) z.fst)))) none) none) fun (r : Int × List (Int × Int) ⊕ List (Int × Int) ⊕ List (Int × Int)) => some r) = some (.inr (.inr r)) ∧ Rises r ∧ ∀ z, z ∈ r ↔ z ∈ ys := by
      intro f hs he
      obtain ⟨i', xs', r1, r2, r3, r4, r5⟩ := iter_dd ys hsrt j h0 hj hs he (ys.length - (j + 1)) j 1 K ys (by omega) (by unfold K; omega) (by omega) (by omega) rfl (fun _ _ => rfl) hr (fun z => by
        rw [take_getD (by omega), List.mem_append, List.mem_singleton]
        exact ⟨.inl, fun h => h.elim id fun h => by rw [h, heq]; exact getD_mem_take (by omega) (by omega)⟩)
      refine ⟨xs'.take i', ?_, r4, r5⟩
      rw [show ((1 : Nat) : Int) = (1 : Int) from rfl] at r1
      rw [r1, bind_some, either_inl]
      simp only [cond_eq, cut_iff, len_eq]
      rw [if_pos ⟨by omega, by omega, by omega⟩]
      have hlf := len_fill (l := xs') (i := i') (by omega) ((0 : Int), (0 : Int))
      simp only [len_eq] at hlf
      rw [if_pos ⟨by omega, by omega, by rw [hlf]; omega⟩, sub_fill (by omega)]
    dsimp only
    rw [show P.ilt (j : Int) (P.len ys) = true from ilt_iff.2 (by rw [len_eq]; omega), cond_true, show P.inb (j : Int) (P.len ys) = true from inb_iff.2 (by rw [len_eq]; omega), cond_true, wrap_pred h0 (by omega),
      show P.inb ((j - 1 : Nat) : Int) (P.len ys) = true from inb_iff.2 (by rw [len_eq]; omega), cond_true, get_nat, get_nat, show P.and (P.ieq (ys.getD j dA).1 (ys.getD (j - 1) dA).1) (P.ieq (ys.getD j dA).2 (ys.getD (j - 1) dA).2) = true from eqA_iff.2 heq, cond_true,
      show P.cut (j : Int) (P.len ys) (P.len ys) = true from cut_iff.2 (by rw [len_eq]; omega), cond_true]
    refine inner _ (fun i k2 xs hk0 hi hk hlx hg1 hg2 => ?_) (fun i k2 xs hk hi hlx => ?_)
    · have e1 : P.add (j : Int) (k2 : Int) = ((j + k2 : Nat) : Int) := by simp [P.add]
      have e2 : P.add (j : Int) ((k2 - 1 : Nat) : Int) = ((j + (k2 - 1) : Nat) : Int) := by simp [P.add]
      have e3 : P.sub (P.len ys) (j : Int) = ((ys.length - j : Nat) : Int) := by simp only [P.sub, len_eq]; omega
      dsimp only
      rw [e3, show P.ilt (k2 : Int) ((ys.length - j : Nat) : Int) = true from ilt_iff.2 (by omega), cond_true, show P.inb (k2 : Int) ((ys.length - j : Nat) : Int) = true from inb_iff.2 (by omega), cond_true, wrap_pred hk0 (by omega),
        show P.inb ((k2 - 1 : Nat) : Int) ((ys.length - j : Nat) : Int) = true from inb_iff.2 (by omega), cond_true, e1, e2, get_nat, get_nat, hg1, hg2, wrap_succ (by omega), wrap_succ (by omega)]
      by_cases q : ys.getD (j + k2) dA = ys.getD (j + (k2 - 1)) dA
      · rw [if_pos q, show P.and (P.ieq (ys.getD (j + k2) dA).1 (ys.getD (j + (k2 - 1)) dA).1) (P.ieq (ys.getD (j + k2) dA).2 (ys.getD (j + (k2 - 1)) dA).2) = true from eqA_iff.2 q]
        rfl
      · rw [if_neg q, show P.and (P.ieq (ys.getD (j + k2) dA).1 (ys.getD (j + (k2 - 1)) dA).1) (P.ieq (ys.getD (j + k2) dA).2 (ys.getD (j + (k2 - 1)) dA).2) = false from by rw [Bool.eq_false_iff]; exact fun z => q (eqA_iff.1 z),
          show P.not false = true from rfl, cond_true, show P.inb (i : Int) (P.len xs) = true from inb_iff.2 (by rw [len_eq]; omega), cond_true]
        rfl
    · have e3 : P.sub (P.len ys) (j : Int) = ((ys.length - j : Nat) : Int) := by simp only [P.sub, len_eq]; omega
      dsimp only
      rw [e3, show P.ilt (k2 : Int) ((ys.length - j : Nat) : Int) = false from by rw [Bool.eq_false_iff, Ne, ilt_iff]; omega]
      rfl
  · simp only [cond_eq, ilt_iff, len_eq]
    rw [if_neg (by omega)]

theorem at_norm (x : List At) (hx : x.length < 9223372036854775808) (hr : x.length * 16 ≤ 140737488355328) : atoms_Norm K x = some (norm x) := by
  have hd : delT K x = some (norm x) := by
    rw [del_spec x hx]
    unfold rest
    have hlen := List.length_filter_le good x
    obtain ⟨s, s1, s2, s3, s4⟩ := sortF_spec (x.filter good) (by omega)
    obtain ⟨r, r1, r2, r3⟩ := compact_spec s (by omega) s4
    rw [s1, bind_some, r1]
    congr 1
    refine (norm_eq ⟨r2, fun z hz => ?_⟩ fun z hz => ?_).symm
    · have := (s3 z).1 ((r3 z).1 hz)
      exact of_decide_eq_true (List.mem_filter.1 this).2
    · rw [r3, s3, List.mem_filter]
      exact ⟨fun h => h.1, fun h => ⟨h, decide_eq_true hz⟩⟩
  rw [norm_form]
  have hroom : P.room (P.add (P.len (P.nil (Int × Int))) (P.len x)) 16 = true := by
    rw [show P.len (P.nil (Int × Int)) = ((0 : Nat) : Int) from rfl, len_eq, room_nat]
    omega
  rw [hroom, cond_true, hd]
  by_cases h0 : P.ilt ((0 : Int)) (P.len x) = true
  · rw [h0]; rfl
  · rw [Bool.eq_false_iff.2 h0, cond_false]
    have : x = [] := by
      rw [ilt_iff, len_eq] at h0
      exact List.length_eq_zero_iff.1 (by omega)
    subst this
    rw [nil_spec fun _ _ => trivial, norm_nil]
    simp [P.amb]
end Go.PL
end
section
/- What the functions on lists of atoms compute. -/
open Go Go.PG Go.PL
set_option linter.unusedVariables false
namespace Go.PL
/-- Few. -/
abbrev Few {α : Type} (l : List α) : Prop := l.length ≤ 1000000

theorem nodup_rises {l : List At} (h : Rises l) : l.Nodup := h.imp fun h e => by subst e; exact ltA_irrefl _ h
theorem insA_length (x : At) : ∀ l : List At, (insA x l).length = l.length + 1
  | [] => rfl
  | y :: l => by simp only [insA]; split <;> simp [insA_length x l]
theorem addA_length (l : List At) (x : At) : (addA l x).length ≤ l.length + 1 := by
  unfold addA; split
  · rw [insA_length]; exact Nat.le_refl _
  · omega
theorem fold_length : ∀ (l acc : List At), (l.foldl addA acc).length ≤ acc.length + l.length
  | [], acc => by simp
  | x :: l, acc => by
    have h1 := fold_length l (addA acc x)
    have h2 := addA_length acc x
    simp only [List.foldl_cons, List.length_cons]
    omega
theorem norm_length (l : List At) : (norm l).length ≤ l.length := by
  have := fold_length l []
  simpa [norm] using this

theorem at_norm' (x : List At) (hx : x.length ≤ 8796093022100) : atoms_Norm K x = some (norm x) := at_norm x (by omega) (by omega)
theorem at_clone (k : Nat) (x : List At) (hx : x.length ≤ 8796093022100) : slices_Clone_api_Atom_api_Atom k x = some x := by
  unfold slices_Clone_api_Atom_api_Atom
  have hroom : P.room (P.add (P.len (P.nil (Int × Int))) (P.len x)) 16 = true := by
    rw [show P.len (P.nil (Int × Int)) = ((0 : Nat) : Int) from rfl, len_eq, room_nat]
    omega
  try dsimp only
  rw [hroom, cond_true, show P.app [] x = x from rfl]
  by_cases h0 : P.ilt ((0 : Int)) (P.len x) = true
  · rw [h0]; rfl
  · rw [Bool.eq_false_iff.2 h0, cond_false]
    have : x = [] := by
      rw [ilt_iff, len_eq] at h0
      exact List.length_eq_zero_iff.1 (by omega)
    subst this
    simp [P.amb]

/-- Are two lists the same? -/
theorem eq_iff_getD {a b : List At} (h : a.length = b.length) : (∀ i, i < a.length → a.getD i dA = b.getD i dA) ↔ a = b := by
  constructor
  · intro q
    refine List.ext_getElem h fun i h1 h2 => ?_
    have := q i h1
    simpa [List.getD_eq_getElem?_getD, h1, h2] using this
  · rintro rfl i _; rfl
theorem at_equal (a b : List At) (ha : a.length ≤ 8796093022100) : slices_Equal_api_Atom_api_Atom K (a, b) = some (decide (a = b)) := by
  unfold slices_Equal_api_Atom_api_Atom
  try dsimp only
  by_cases hl : a.length = b.length
  · rw [show P.ieq (P.len a) (P.len b) = true from ieq_iff.2 (by simp [len_eq, hl]), show P.not true = false from rfl, cond_false]
    rw [iter_all (n := a.length) (e := .inl ()) (r := .inr false) (fun i => a.getD i dA = b.getD i dA) K ?_ ?_ (by unfold K; omega)]
    · rw [bind_some]
      by_cases h : ∀ i, i < a.length → a.getD i dA = b.getD i dA
      · rw [if_pos h, either_inl, decide_eq_true ((eq_iff_getD hl).1 h)]
      · rw [if_neg h, either_inr, decide_eq_false fun q => h ((eq_iff_getD hl).2 q)]
    · intro i hi
      try dsimp only
      rw [show P.ilt (i : Int) (P.len a) = true from ilt_iff.2 (by rw [len_eq]; omega), cond_true, show P.inb (i : Int) (P.len a) = true from inb_iff.2 (by rw [len_eq]; omega), cond_true, show P.inb (i : Int) (P.len b) = true from inb_iff.2 (by rw [len_eq]; omega), cond_true, get_nat, get_nat, wrap_succ (by omega)]
      by_cases q : a.getD i dA = b.getD i dA
      · rw [show P.and (P.ieq (a.getD i dA).1 (b.getD i dA).1) (P.ieq (a.getD i dA).2 (b.getD i dA).2) = true from eqA_iff.2 q, if_pos q]; rfl
      · rw [show P.and (P.ieq (a.getD i dA).1 (b.getD i dA).1) (P.ieq (a.getD i dA).2 (b.getD i dA).2) = false from by rw [Bool.eq_false_iff]; exact fun z => q (eqA_iff.1 z), if_neg q]; rfl
    · try dsimp only
      rw [show P.ilt (a.length : Int) (P.len a) = false from by rw [Bool.eq_false_iff, Ne, ilt_iff, len_eq]; omega]; rfl
  · rw [show P.ieq (P.len a) (P.len b) = false from by rw [Bool.eq_false_iff, Ne, ieq_iff, len_eq, len_eq]; omega, show P.not false = true from rfl, cond_true, decide_eq_false fun q => hl (by rw [q])]
theorem ref_same (a b : List At) (ha : a.length ≤ 8796093022100) : ref06_Same K (a, b) = some (decide (a = b)) := at_equal a b ha

/-- Is an atom in a list? -/
theorem mem_iff_getD {l : List At} {x : At} : x ∈ l ↔ ∃ i, i < l.length ∧ l.getD i dA = x := by
  rw [List.mem_iff_getElem]
  constructor
  · rintro ⟨i, h, rfl⟩; exact ⟨i, h, by simp [List.getD_eq_getElem?_getD, h]⟩
  · rintro ⟨i, h, rfl⟩; exact ⟨i, h, by simp [List.getD_eq_getElem?_getD, h]⟩
theorem ref_has (l : List At) (x : At) (hl : l.length ≤ 8796093022100) : ref06_Has K (l, x) = some (decide (x ∈ l)) := by
  unfold ref06_Has
  try dsimp only
  rw [iter_all (n := l.length) (e := .inl ()) (r := .inr true) (fun i => l.getD i dA ≠ x) K ?_ ?_ (by unfold K; omega)]
  · rw [bind_some]
    by_cases h : ∀ i, i < l.length → l.getD i dA ≠ x
    · rw [if_pos h, either_inl, decide_eq_false]
      intro q
      obtain ⟨i, h1, h2⟩ := mem_iff_getD.1 q
      exact h i h1 h2
    · rw [if_neg h, either_inr, decide_eq_true]
      refine mem_iff_getD.2 (Classical.byContradiction fun q => h fun i hi e => q ⟨i, hi, e⟩)
  · intro i hi
    try dsimp only
    rw [show P.ilt (i : Int) (P.len l) = true from ilt_iff.2 (by rw [len_eq]; omega), cond_true, show P.inb (i : Int) (P.len l) = true from inb_iff.2 (by rw [len_eq]; omega), cond_true, get_nat, wrap_succ (by omega)]
    by_cases q : l.getD i dA = x
    · rw [show P.and (P.ieq (l.getD i dA).1 x.1) (P.ieq (l.getD i dA).2 x.2) = true from eqA_iff.2 q, if_neg (fun z => z q)]; rfl
    · rw [show P.and (P.ieq (l.getD i dA).1 x.1) (P.ieq (l.getD i dA).2 x.2) = false from by rw [Bool.eq_false_iff]; exact fun z => q (eqA_iff.1 z), if_pos q]; rfl
  · try dsimp only
    rw [show P.ilt (l.length : Int) (P.len l) = false from by rw [Bool.eq_false_iff, Ne, ilt_iff, len_eq]; omega]; rfl
theorem at_has (l : List At) (x : At) (hl : l.length ≤ 8796093022100) : atoms_Has K (l, x) = some (decide (x ∈ l)) := by
  unfold atoms_Has slices_Contains_api_Atom_api_Atom slices_Index_api_Atom_api_Atom
  try dsimp only
  rw [iter_find0 (n := l.length) (e := .inl ()) (fun i => if l.getD i dA = x then some (.inr (i : Int)) else none) K ?_ ?_ (by unfold K; omega)]
  · rw [bind_some]
    cases hq : (List.range l.length).findSome? (fun i => if l.getD i dA = x then some (Sum.inr (i : Int) : Unit ⊕ Int) else none) with
    | none =>
      rw [List.findSome?_eq_none_iff] at hq
      simp only [Option.getD_none, either_inl, bind_some]
      have hn : x ∉ l := fun q => by
        obtain ⟨i, h1, h2⟩ := mem_iff_getD.1 q
        have := hq i (List.mem_range.2 h1)
        rw [if_pos h2] at this
        cases this
      rw [decide_eq_false hn]
      rfl
    | some r =>
      obtain ⟨i, h1, h2⟩ := List.exists_of_findSome?_eq_some hq
      by_cases q : l.getD i dA = x
      · rw [if_pos q] at h2
        injection h2 with h2
        subst h2
        simp only [Option.getD_some, either_inr, bind_some]
        rw [decide_eq_true (mem_iff_getD.2 ⟨i, List.mem_range.1 h1, q⟩), show P.ile ((0 : Int)) (i : Int) = true from ile_iff.2 (by omega)]
      · rw [if_neg q] at h2; cases h2
  · intro i hi
    try dsimp only
    rw [show P.ilt (i : Int) (P.len l) = true from ilt_iff.2 (by rw [len_eq]; omega), cond_true, show P.inb (i : Int) (P.len l) = true from inb_iff.2 (by rw [len_eq]; omega), cond_true, get_nat, wrap_succ (by omega)]
    by_cases q : l.getD i dA = x
    · rw [show P.and (P.ieq x.1 (l.getD i dA).1) (P.ieq x.2 (l.getD i dA).2) = true from eqA_iff.2 q.symm, if_pos q]; rfl
    · rw [show P.and (P.ieq x.1 (l.getD i dA).1) (P.ieq x.2 (l.getD i dA).2) = false from by rw [Bool.eq_false_iff]; exact fun z => q (eqA_iff.1 z).symm, if_neg q]; rfl
  · try dsimp only
    rw [show P.ilt (l.length : Int) (P.len l) = false from by rw [Bool.eq_false_iff, Ne, ilt_iff, len_eq]; omega]; rfl

/-- Is each atom of a list in another one? -/
def Within (a b : List At) : Prop := ∀ z, z ∈ a → z ∈ b
instance (a b : List At) : Decidable (Within a b) := by unfold Within; exact inferInstance
theorem within_iff {a b : List At} : (∀ i, i < a.length → a.getD i dA ∈ b) ↔ Within a b := by
  constructor
  · intro h z hz
    obtain ⟨i, h1, rfl⟩ := mem_iff_getD.1 hz
    exact h i h1
  · intro h i hi
    exact h _ (mem_iff_getD.2 ⟨i, hi, rfl⟩)
theorem within_gen (H : Nat → List At × At → Option Bool) (a b : List At) (ha : a.length ≤ 8796093022100) (hh : ∀ x, H K (b, x) = some (decide (x ∈ b))) :
    P.bind (P.iter K (fun (y : Int) => P.cond (P.ilt y (P.len a)) (P.cond (P.inb y (P.len a)) (P.bind (H K (b, P.get a y ((0 : Int), (0 : Int)))) fun (r : Bool) => P.cond (P.not r) (some (Sum.inr (Sum.inr false))) (some (Sum.inl (P.wrap IntKind.i64 (P.add y ((1 : Int))))))) none) (some (Sum.inr (Sum.inl PUnit.unit)))) ((0 : Int))) (P.either (fun (z : PUnit) => some true) fun (r : Bool) => some r) = some (decide (Within a b)) := by
  rw [iter_all (n := a.length) (e := .inl ()) (r := .inr false) (fun i => a.getD i dA ∈ b) K ?_ ?_ (by unfold K; omega)]
  · rw [bind_some]
    by_cases h : ∀ i, i < a.length → a.getD i dA ∈ b
    · rw [if_pos h, either_inl, decide_eq_true (within_iff.1 h)]
    · rw [if_neg h, either_inr, decide_eq_false fun q => h (within_iff.2 q)]
  · intro i hi
    try dsimp only
    rw [show P.ilt (i : Int) (P.len a) = true from ilt_iff.2 (by rw [len_eq]; omega), cond_true, show P.inb (i : Int) (P.len a) = true from inb_iff.2 (by rw [len_eq]; omega), cond_true, get_nat, hh, bind_some, wrap_succ (by omega)]
    by_cases q : a.getD i dA ∈ b
    · rw [if_pos q, decide_eq_true q]; rfl
    · rw [if_neg q, decide_eq_false q]; rfl
  · try dsimp only
    rw [show P.ilt (a.length : Int) (P.len a) = false from by rw [Bool.eq_false_iff, Ne, ilt_iff, len_eq]; omega]; rfl
theorem at_within (a b : List At) (ha : a.length ≤ 8796093022100) (hb : b.length ≤ 8796093022100) : atoms_Within K (a, b) = some (decide (Within a b)) := within_gen atoms_Has a b ha fun x => at_has b x hb
theorem ref_within (a b : List At) (ha : a.length ≤ 8796093022100) (hb : b.length ≤ 8796093022100) : ref06_Within K (a, b) = some (decide (Within a b)) := within_gen ref06_Has a b ha fun x => ref_has b x hb

theorem at_may (l : List At) (hl : l.length ≤ 8796093022100) : atoms_May K l = some (decide (l = norm l)) := by
  unfold atoms_May
  rw [at_norm' l hl, bind_some, at_equal l _ hl, bind_some]
end Go.PL
end
section
/- What the functions on lists of atoms compute: unions, renamed lists, the document's answers. -/
open Go Go.PG Go.PL
set_option linter.unusedVariables false
namespace Go.PL
theorem ref_right (k : Nat) (a : At) : ref06_Right k a = some (decide (RightA a)) := by
  obtain ⟨a, b⟩ := a
  unfold ref06_Right
  dsimp only
  simp only [cond_eq, ieq_iff, ile_iff]
  repeat' split
  all_goals
    rw [Option.some.injEq, Bool.eq_iff_iff, decide_eq_true_eq]
    simp only [RightA, ieq_iff, ile_iff, Bool.false_eq_true, false_iff]
    omega
theorem ref_less (k : Nat) (a b : At) : ref06_Less k (a, b) = some (decide (ltA a b)) := by
  obtain ⟨a1, a2⟩ := a; obtain ⟨b1, b2⟩ := b
  unfold ref06_Less
  dsimp only
  simp only [cond_eq, ieq_iff, ilt_iff]
  repeat' split
  all_goals
    rw [Option.some.injEq, Bool.eq_iff_iff, decide_eq_true_eq]
    simp only [ltA, ilt_iff, true_iff, Bool.false_eq_true, false_iff]
    omega
theorem room1 (l : List At) (x : At) (h : l.length ≤ 8796093022200) : P.room (P.add (P.len l) (P.len [x])) 16 = true := by
  rw [len_eq, len_eq, room_nat]; simp; omega

def stepA (x : At) (s : List At × Bool) (y : At) : List At × Bool := if s.2 = false ∧ ltA x y then (s.1 ++ [x] ++ [y], true) else (s.1 ++ [y], s.2)
def finA (x : At) (s : List At × Bool) : List At := if s.2 = true then s.1 else s.1 ++ [x]
/-- What is laid of a list, an atom put in where it belongs. -/
def layA (x : At) (l : List At) (i : Nat) : List At × Bool := (l.take i).foldl (stepA x) ([], false)
theorem layA_succ {x : At} {l : List At} {i : Nat} (h : i < l.length) : layA x l (i + 1) = stepA x (layA x l i) (l.getD i dA) := by
  unfold layA
  rw [take_getD h, List.foldl_append]
  rfl
theorem lay_len (x : At) (l : List At) : ∀ i, i ≤ l.length → (layA x l i).1.length ≤ i + 1 ∧ ((layA x l i).2 = false → (layA x l i).1.length ≤ i)
  | 0, _ => by simp [layA]
  | i + 1, h => by
    obtain ⟨h1, h2⟩ := lay_len x l i (by omega)
    rw [layA_succ (by omega)]
    unfold stepA
    split
    · rename_i q
      have := h2 q.1
      simp; omega
    · simp
      exact ⟨h1, fun q => h2 q⟩
theorem step_true (x : At) : ∀ (l acc : List At), l.foldl (stepA x) (acc, true) = (acc ++ l, true)
  | [], acc => by simp
  | y :: l, acc => by
    rw [List.foldl_cons, show stepA x (acc, true) y = (acc ++ [y], true) from by simp [stepA], step_true x l]
    simp
theorem step_false (x : At) : ∀ (l acc : List At), finA x (l.foldl (stepA x) (acc, false)) = acc ++ insA x l
  | [], acc => by simp [insA, finA]
  | y :: l, acc => by
    rw [List.foldl_cons]
    unfold insA
    by_cases q : ltA x y
    · rw [show stepA x (acc, false) y = (acc ++ [x] ++ [y], true) from by simp [stepA, q], step_true, if_pos q]; simp [finA]
    · rw [show stepA x (acc, false) y = (acc ++ [y], false) from by simp [stepA, q], step_false x l, if_neg q]; simp
theorem lay_all (x : At) (l : List At) : finA x (layA x l l.length) = insA x l := by
  have := step_false x l []
  unfold layA
  rw [List.take_length]
  simpa using this

theorem ref_add (l : List At) (x : At) (hl : l.length ≤ 8796093022100) : ref06_add K (l, x) = some (addA l x) := by
  unfold ref06_add
  dsimp only
  rw [ref_right, bind_some]
  by_cases h1 : RightA x
  · rw [decide_eq_true h1, show P.not true = false from rfl, cond_false, ref_has l x hl, bind_some]
    by_cases h2 : x ∈ l
    · rw [decide_eq_true h2, cond_true]
      unfold addA
      rw [if_neg (fun q => q.2 h2)]
    · rw [decide_eq_false h2, cond_false]
      unfold addA
      rw [if_pos ⟨h1, h2⟩, ← lay_all]
      have run : ∀ f : List At × Bool × Int → Option ((List At × Bool × Int) ⊕ ((List At × Bool) ⊕ List At)),
          (∀ i, i < l.length → f ((layA x l i).1, (layA x l i).2, (i : Int)) = some (.inl ((layA x l (i + 1)).1, (layA x l (i + 1)).2, ((i + 1 : Nat) : Int)))) →
          f ((layA x l l.length).1, (layA x l l.length).2, (l.length : Int)) = some (.inr (.inl (layA x l l.length))) → P.iter K f ([], false, (0 : Int)) = some (.inl (layA x l l.length)) := by
        intro f hs he
        exact iter_run (fun i => ((layA x l i).1, (layA x l i).2, (i : Int))) _ l.length 0 K (by unfold K; omega) (fun j hj => by simpa using hs j hj) (by simpa using he)
      rw [run _ (fun i hi => ?_) ?_]
      · rw [bind_some, either_inl]
        cases hb : (layA x l l.length).2
        · rw [show P.not false = true from rfl, cond_true, room1 _ _ (by have := (lay_len x l l.length (Nat.le_refl _)).1; omega), cond_true]
          unfold finA
          rw [if_neg (by simp [hb])]; rfl
        · rw [show P.not true = false from rfl, cond_false]
          unfold finA
          rw [if_pos hb]
      · try dsimp only
        rw [show P.ilt (l.length : Int) (P.len l) = false from by rw [Bool.eq_false_iff, Ne, ilt_iff, len_eq]; omega]; rfl
      · try dsimp only
        have hr := (lay_len x l i (by omega)).1
        have r1 : P.room (P.add (P.len (layA x l i).1) (P.len [x])) 16 = true := room1 _ _ (by omega)
        have r2 : P.room (P.add (P.len (layA x l i).1) (P.len [l.getD i dA])) 16 = true := room1 _ _ (by omega)
        have r3 : P.room (P.add (P.len (P.app (layA x l i).1 [x])) (P.len [l.getD i dA])) 16 = true := room1 _ _ (by simp [P.app]; omega)
        simp only [show P.ilt (i : Int) (P.len l) = true from ilt_iff.2 (by rw [len_eq]; omega), show P.inb (i : Int) (P.len l) = true from inb_iff.2 (by rw [len_eq]; omega), cond_true, get_nat, wrap_succ (show i + 1 < 9223372036854775808 by omega), r1, r2, r3]
        rw [ref_less, bind_some, layA_succ hi]
        unfold stepA
        cases hb : (layA x l i).2
        · rw [show P.not false = true from rfl, cond_true]
          by_cases q : ltA x (l.getD i dA)
          · rw [decide_eq_true q, cond_true, if_pos ⟨rfl, q⟩]; rfl
          · rw [decide_eq_false q, cond_false, if_neg (fun z => q z.2)]; rfl
        · rw [show P.not true = false from rfl, cond_false, if_neg (fun z => by cases z.1)]; rfl
  · rw [decide_eq_false h1, show P.not false = true from rfl, cond_true]
    unfold addA
    rw [if_neg (fun q => h1 q.1)]

theorem fold_add (l acc : List At) (h : acc.length + l.length ≤ 8796093022000) :
    P.bind (P.iter K (fun (y : List (Int × Int) × Int) => P.cond (P.ilt y.snd (P.len l)) (P.cond (P.inb y.snd (P.len l)) (P.bind (ref06_add K (y.fst, P.get l y.snd ((0 : Int), (0 : Int)))) fun (r : List (Int × Int)) => some (Sum.inl (r, P.wrap IntKind.i64 (P.add y.snd ((1 : Int)))))) none) (some (Sum.inr (Sum.inl y.fst)))) (acc, (0 : Int))) (P.either (fun (z : List (Int × Int)) => some z) fun (r : List (Int × Int)) => some r) = some (l.foldl addA acc) := by
  have run : ∀ f : List At × Int → Option ((List At × Int) ⊕ (List At ⊕ List At)),
      (∀ i, i < l.length → f ((l.take i).foldl addA acc, (i : Int)) = some (.inl ((l.take (i + 1)).foldl addA acc, ((i + 1 : Nat) : Int)))) →
      f (l.foldl addA acc, (l.length : Int)) = some (.inr (.inl (l.foldl addA acc))) → P.iter K f (acc, (0 : Int)) = some (.inl (l.foldl addA acc)) := by
    intro f hs he
    exact iter_run (fun i => ((l.take i).foldl addA acc, (i : Int))) _ l.length 0 K (by unfold K; omega) (fun j hj => by simpa using hs j hj) (by simpa using he)
  rw [run _ (fun i hi => ?_) ?_]
  · rfl
  · try dsimp only
    rw [show P.ilt (l.length : Int) (P.len l) = false from by rw [Bool.eq_false_iff, Ne, ilt_iff, len_eq]; omega]; rfl
  · try dsimp only
    have hr := fold_length (l.take i) acc
    rw [List.length_take] at hr
    rw [show P.ilt (i : Int) (P.len l) = true from ilt_iff.2 (by rw [len_eq]; omega), cond_true, show P.inb (i : Int) (P.len l) = true from inb_iff.2 (by rw [len_eq]; omega), cond_true, get_nat, wrap_succ (by omega), ref_add _ _ (by omega), bind_some, take_getD hi, List.foldl_append]
    rfl
theorem ref_norm (l : List At) (h : l.length ≤ 8796093022000) : ref06_Norm K l = some (norm l) := fold_add l [] (by simpa using h)
theorem ref_may (l : List At) (h : l.length ≤ 8796093022000) : ref06_May K l = some (decide (l = norm l)) := by
  unfold ref06_May
  rw [ref_norm l h, bind_some, ref_same l _ (by omega), bind_some]
theorem norm_append (a b : List At) : norm (a ++ b) = b.foldl addA (norm a) := by unfold norm; rw [List.foldl_append]
theorem ref_union (a b : List At) (h : a.length + b.length ≤ 8796093022000) : ref06_Union K (a, b) = some (norm (a ++ b)) := by
  unfold ref06_Union
  dsimp only
  rw [ref_norm a (by omega), bind_some, norm_append]
  exact fold_add b (norm a) (by have := norm_length a; omega)
end Go.PL
end
section
/- What the functions on lists of atoms compute: atoms.Union, renamed lists. -/
open Go Go.PG Go.PL
set_option linter.unusedVariables false
namespace Go.PL
theorem wrap0 : P.wrap IntKind.i64 (P.sub ((0 : Int)) ((0 : Int))) = 0 := by rw [wrap_i64 (by decide) (by decide)]; rfl
theorem wrap_sub0 {n : Nat} (h : n < 9223372036854775808) : P.wrap IntKind.i64 (P.sub (n : Int) (0 : Int)) = (n : Int) := by
  rw [show P.sub (n : Int) (0 : Int) = n from by simp [P.sub], wrap_nat h]
theorem at_concat (a b : List At) (h : a.length + b.length ≤ 8796093022000) : slices_Concat_api_Atom_api_Atom K [a, b] = some (a ++ b) := by
  have run1 : ∀ f : Int × Int → Option ((Int × Int) ⊕ (Int ⊕ List At)), f (0, 0) = some (.inl ((a.length : Int), 1)) → f ((a.length : Int), 1) = some (.inl (((a.length + b.length : Nat) : Int), 2)) →
      f (((a.length + b.length : Nat) : Int), 2) = some (.inr (.inl ((a.length + b.length : Nat) : Int))) → P.iter K f (0, 0) = some (.inl ((a.length + b.length : Nat) : Int)) := by
    intro f h1 h2 h3
    rw [iter_step (by unfold K; omega) h1, iter_step (by unfold K; omega) h2, iter_done (by unfold K; omega) h3]
  have run2 : ∀ f : List At × Int → Option ((List At × Int) ⊕ (List At ⊕ List At)), f ([], 0) = some (.inl (a, 1)) → f (a, 1) = some (.inl (a ++ b, 2)) →
      f (a ++ b, 2) = some (.inr (.inl (a ++ b))) → P.iter K f ([], 0) = some (.inl (a ++ b)) := by
    intro f h1 h2 h3
    rw [iter_step (by unfold K; omega) h1, iter_step (by unfold K; omega) h2, iter_done (by unfold K; omega) h3]
  have l0 : P.ilt (0 : Int) (P.len [a, b]) = true := rfl
  have l1 : P.ilt (1 : Int) (P.len [a, b]) = true := rfl
  have l2 : P.ilt (2 : Int) (P.len [a, b]) = false := rfl
  have i0 : P.inb (0 : Int) (P.len [a, b]) = true := rfl
  have i1 : P.inb (1 : Int) (P.len [a, b]) = true := rfl
  have g0 : P.get [a, b] (0 : Int) [] = a := rfl
  have g1 : P.get [a, b] (1 : Int) [] = b := rfl
  have w1 : P.wrap IntKind.i64 (P.add (0 : Int) (1 : Int)) = 1 := by rw [wrap_i64 (by decide) (by decide)]; rfl
  have w2 : P.wrap IntKind.i64 (P.add (1 : Int) (1 : Int)) = 2 := by rw [wrap_i64 (by decide) (by decide)]; rfl
  have s1 : P.wrap IntKind.i64 (P.add (0 : Int) (P.len a)) = (a.length : Int) := by rw [show P.add (0 : Int) (P.len a) = ((a.length : Nat) : Int) from by simp [P.add, P.len], wrap_nat (by omega)]
  have s2 : P.wrap IntKind.i64 (P.add (a.length : Int) (P.len b)) = ((a.length + b.length : Nat) : Int) := by rw [show P.add (a.length : Int) (P.len b) = ((a.length + b.length : Nat) : Int) from by simp [P.add, P.len], wrap_nat (by omega)]
  have loop : ∀ E : List At, E = [] → P.bind (P.iter K (fun (y : List (Int × Int) × Int) => P.cond (P.ilt y.snd (P.len [a, b])) (P.cond (P.inb y.snd (P.len [a, b])) (P.cond (P.room (P.add (P.len y.fst) (P.len (P.get [a, b] y.snd []))) 16) (some (Sum.inl (P.app y.fst (P.get [a, b] y.snd []), P.wrap IntKind.i64 (P.add y.snd ((1 : Int)))))) none) none) (some (Sum.inr (Sum.inl y.fst)))) (E, (0 : Int))) (P.either (fun (z : List (Int × Int)) => some z) fun (r : List (Int × Int)) => some r) = some (a ++ b) := by
    rintro E rfl
    rw [run2 _ ?_ ?_ ?_]
    · rfl
    · try dsimp only
      rw [l0, cond_true, i0, cond_true, g0, w1, show P.room (P.add (P.len ([] : List At)) (P.len a)) 16 = true from by rw [len_eq, len_eq, room_nat]; simp; omega]; rfl
    · try dsimp only
      rw [l1, cond_true, i1, cond_true, g1, w2, show P.room (P.add (P.len a) (P.len b)) 16 = true from by rw [len_eq, len_eq, room_nat]; omega]; rfl
    · try dsimp only
      rw [l2]; rfl
  unfold slices_Concat_api_Atom_api_Atom
  rw [run1 _ ?_ ?_ ?_]
  · rw [bind_some, either_inl, show P.ilt (((a.length + b.length : Nat) : Int)) (0 : Int) = false from by rw [Bool.eq_false_iff, Ne, ilt_iff]; omega, cond_false, wrap0, wrap_sub0 (by omega)]
    by_cases h0 : P.ilt (0 : Int) (((a.length + b.length : Nat) : Int)) = true
    · rw [h0, cond_true, show P.cut (0 : Int) 0 0 = true from by decide, cond_true, cond_true, show P.room (((a.length + b.length : Nat) : Int)) 16 = true from by rw [room_iff]; omega, cond_true, show P.cut (0 : Int) 0 (P.len (P.rep (((a.length + b.length : Nat) : Int)) (((0 : Int), (0 : Int)) : At))) = true from by rw [cut_iff, len_eq]; omega, cond_true]
      exact loop _ (by simp [P.sub_])
    · rw [Bool.eq_false_iff.2 h0, cond_false]
      exact loop _ rfl
  · try dsimp only
    rw [l0, cond_true, i0, cond_true, g0, w1, s1, show P.ilt (a.length : Int) (0 : Int) = false from by rw [Bool.eq_false_iff, Ne, ilt_iff]; omega]; rfl
  · try dsimp only
    rw [l1, cond_true, i1, cond_true, g1, w2, s2, show P.ilt (((a.length + b.length : Nat) : Int)) (0 : Int) = false from by rw [Bool.eq_false_iff, Ne, ilt_iff]; omega]; rfl
  · try dsimp only
    rw [l2]; rfl
theorem at_union (a b : List At) (h : a.length + b.length ≤ 8796093022000) : atoms_Union K (a, b) = some (norm (a ++ b)) := by
  unfold atoms_Union
  dsimp only
  rw [at_concat a b h, bind_some, at_norm' _ (by simp; omega), bind_some]

/-- An atom, its site's newest object grown old. -/
def renA (s : Int) (x : At) : At := if x = (4, s) then (5, s) else x
theorem renA_eq {s : Int} {x : At} : renA s x = if x = (4, s) then (5, x.2) else x := by
  unfold renA; split
  · rename_i h; subst h; rfl
  · rfl

theorem ref_rename (l : List At) (s : Int) (h : l.length ≤ 8796093022000) : ref06_Rename K (l, s) = some (norm (l.map (renA s))) := by
  unfold ref06_Rename
  dsimp only
  have run : ∀ f : List At × Int → Option ((List At × Int) ⊕ (List At ⊕ List At)),
      (∀ i, i < l.length → f ((l.take i).map (renA s), (i : Int)) = some (.inl ((l.take i).map (renA s) ++ [renA s (l.getD i dA)], ((i + 1 : Nat) : Int)))) →
      f (l.map (renA s), (l.length : Int)) = some (.inr (.inl (l.map (renA s)))) → P.iter K f ([], (0 : Int)) = some (.inl (l.map (renA s))) := by
    intro f hs he
    refine iter_run (fun i => ((l.take i).map (renA s), (i : Int))) _ l.length 0 K (by unfold K; omega) (fun j hj => ?_) (by simpa using he)
    have := hs j hj
    simp only [Nat.zero_add]
    rw [this, take_getD hj, List.map_append]
    rfl
  rw [run _ ?_ ?_]
  · rw [bind_some, either_inl, ref_norm _ (by simpa using h), bind_some]
  · intro i hi
    try dsimp only
    have hr : ∀ x : At, P.room (P.add (P.len ((l.take i).map (renA s))) (P.len [x])) 16 = true := fun x => room1 _ _ (by simp; omega)
    rw [show P.ilt (i : Int) (P.len l) = true from ilt_iff.2 (by rw [len_eq]; omega), cond_true, show P.inb (i : Int) (P.len l) = true from inb_iff.2 (by rw [len_eq]; omega), cond_true, get_nat, wrap_succ (by omega), hr, hr]
    simp only [cond_true, cond_eq, ieq_iff]
    rw [renA_eq]
    by_cases q : l.getD i dA = (4, s)
    · rw [if_pos q, if_pos (by rw [q]), if_pos (by rw [q])]; rfl
    · rw [if_neg q]
      by_cases q1 : (l.getD i dA).1 = 4
      · rw [if_pos q1, if_neg (fun z => q (Prod.ext q1 z))]; rfl
      · rw [if_neg q1]; rfl
  · try dsimp only
    rw [show P.ilt (l.length : Int) (P.len l) = false from by rw [Bool.eq_false_iff, Ne, ilt_iff, len_eq]; omega]; rfl
end Go.PL
end
section
/- What atoms.Rename computes. -/
open Go Go.PG Go.PL
set_option linter.unusedVariables false
namespace Go.PL
def mixR (s : Int) (l : List At) (i : Nat) : List At := (l.take i).map (renA s) ++ l.drop i
theorem mixR_len (s : Int) (l : List At) (i : Nat) : (mixR s l i).length = l.length := by simp [mixR]; omega
theorem mixR_get (s : Int) (l : List At) {i : Nat} (h : i < l.length) : (mixR s l i).getD i dA = l.getD i dA := by
  have hl : ((l.take i).map (renA s)).length = i := by rw [List.length_map, List.length_take]; omega
  unfold mixR
  rw [List.getD_eq_getElem?_getD, List.getElem?_append_right (by omega), hl, List.getElem?_drop, Nat.sub_self, Nat.add_zero, ← List.getD_eq_getElem?_getD]
theorem mixR_set (s : Int) (l : List At) {i : Nat} (h : i < l.length) : (mixR s l i).set i (renA s (l.getD i dA)) = mixR s l (i + 1) := by
  have hl : ((l.take i).map (renA s)).length = i := by rw [List.length_map, List.length_take]; omega
  unfold mixR
  rw [List.set_append_right _ _ (by omega), hl, Nat.sub_self, drop_getD h, List.set_cons_zero, take_getD h, List.map_append]
  simp
theorem mixR_same (s : Int) (l : List At) {i : Nat} (h : i < l.length) (q : renA s (l.getD i dA) = l.getD i dA) : mixR s l i = mixR s l (i + 1) := by
  unfold mixR
  rw [drop_getD h, take_getD h, List.map_append, List.map_singleton, q]
  simp
theorem at_rename (l : List At) (s : Int) (h : l.length ≤ 8796093022000) : atoms_Rename K (l, s) = some (norm (l.map (renA s))) := by
  unfold atoms_Rename
  dsimp only
  have hroom : P.room (P.add (P.len (P.nil (Int × Int))) (P.len l)) 16 = true := by
    rw [show P.len (P.nil (Int × Int)) = ((0 : Nat) : Int) from rfl, len_eq, room_nat]
    omega
  rw [hroom, cond_true, show P.app [] l = l from rfl]
  have body : ∀ f : Int × List At → Option ((Int × List At) ⊕ (List At ⊕ List At)),
      (∀ i : Nat, i < l.length → f ((i : Int), mixR s l i) = some (.inl (((i + 1 : Nat) : Int), mixR s l (i + 1)))) → f ((l.length : Int), mixR s l l.length) = some (.inr (.inl (mixR s l l.length))) →
      P.bind (P.iter K f ((0 : Int), l)) (P.either (fun (z : List (Int × Int)) => P.bind (atoms_Norm K z) fun (r : List (Int × Int)) => some r) fun (r : List (Int × Int)) => some r) = some (norm (l.map (renA s))) := by
    intro f hs he
    have e0 : mixR s l 0 = l := by simp [mixR]
    have en : mixR s l l.length = l.map (renA s) := by simp [mixR]
    have := iter_run (fun i => ((i : Int), mixR s l i)) _ l.length 0 K (by unfold K; omega) (fun j hj => by simpa using hs j hj) (by simpa using he)
    rw [e0] at this
    rw [show ((0 : Nat) : Int) = 0 from rfl] at this
    rw [this, bind_some, either_inl, en, at_norm' _ (by simp; omega), bind_some]
  have main : P.bind (P.iter K (fun (y : Int × List (Int × Int)) => P.cond (P.ilt y.fst (P.len l)) (P.cond (P.inb y.fst (P.len y.snd)) (P.cond (P.and (P.ieq (P.get y.snd y.fst ((0 : Int), (0 : Int))).fst ((4 : Int))) (P.ieq (P.get y.snd y.fst ((0 : Int), (0 : Int))).snd s)) (P.cond (P.inb y.fst (P.len y.snd)) (some (Sum.inl (P.wrap IntKind.i64 (P.add y.fst ((1 : Int))), P.set y.snd y.fst ((5 : Int), (P.get y.snd y.fst ((0 : Int), (0 : Int))).snd)))) none) (some (Sum.inl (P.wrap IntKind.i64 (P.add y.fst ((1 : Int))), y.snd)))) none) (some (Sum.inr (Sum.inl y.snd)))) ((0 : Int), l)) (P.either (fun (z : List (Int × Int)) => P.bind (atoms_Norm K z) fun (r : List (Int × Int)) => some r) fun (r : List (Int × Int)) => some r) = some (norm (l.map (renA s))) := by
    refine body _ (fun i hi => ?_) ?_
    · try dsimp only
      have hin : P.inb (i : Int) (P.len (mixR s l i)) = true := inb_iff.2 (by rw [len_eq, mixR_len]; omega)
      rw [show P.ilt (i : Int) (P.len l) = true from ilt_iff.2 (by rw [len_eq]; omega), cond_true, hin, cond_true, cond_true, get_nat, mixR_get s l hi, wrap_succ (by omega)]
      by_cases q : l.getD i dA = (4, s)
      · rw [show P.and (P.ieq (l.getD i dA).1 4) (P.ieq (l.getD i dA).2 s) = true from eqA_iff (b := (4, s)) |>.2 q, cond_true, ← mixR_set s l hi, renA_eq, if_pos q]
        rfl
      · rw [show P.and (P.ieq (l.getD i dA).1 4) (P.ieq (l.getD i dA).2 s) = false from by rw [Bool.eq_false_iff]; exact fun z => q (eqA_iff (b := (4, s)) |>.1 z), cond_false, ← mixR_same s l hi (by rw [renA_eq, if_neg q])]
    · try dsimp only
      rw [show P.ilt (l.length : Int) (P.len l) = false from by rw [Bool.eq_false_iff, Ne, ilt_iff, len_eq]; omega]; rfl
  rw [main]
  by_cases h0 : P.ilt ((0 : Int)) (P.len l) = true
  · rw [h0]; rfl
  · rw [Bool.eq_false_iff.2 h0, cond_false]
    have : l = [] := by
      rw [ilt_iff, len_eq] at h0
      exact List.length_eq_zero_iff.1 (by omega)
    subst this
    rw [iter_done (r := .inl []) (by unfold K; omega) (by rfl), bind_some, either_inl, at_norm' [] (by simp), bind_some]
    simp [P.amb]
end Go.PL
end
section
/- Texts of atoms: the fixed ones. -/
open Go Go.PG Go.PL
set_option linter.all false
namespace Go.PL
theorem tx1 : atoms_Text K [((4 : Int), (1 : Int)), ((5 : Int), (2 : Int))] = some ⟨#[114, 101, 99, 49, 32, 115, 117, 109, 50]⟩ := by decide +kernel
theorem tx2 : atoms_Text K [((5 : Int), (1 : Int)), ((5 : Int), (2 : Int))] = some ⟨#[115, 117, 109, 49, 32, 115, 117, 109, 50]⟩ := by decide +kernel
theorem tx3 : atoms_Text K [((0 : Int), (0 : Int)), ((2 : Int), (0 : Int))] = some ⟨#[110, 117, 108, 108, 32, 110, 117, 109]⟩ := by decide +kernel
theorem fixed6 : law06_fixed K () = some true := by
  unfold law06_fixed
  rw [at_rename _ _ (by decide), bind_some, at_union _ _ (by decide), bind_some, show norm ([((4 : Int), (1 : Int)), ((5 : Int), (2 : Int))].map (renA 1)) = [((5 : Int), (1 : Int)), ((5 : Int), (2 : Int))] by decide +kernel, show norm ([((2 : Int), (0 : Int))] ++ [((0 : Int), (0 : Int)), ((2 : Int), (0 : Int))]) = [((0 : Int), (0 : Int)), ((2 : Int), (0 : Int))] by decide +kernel]
  rw [tx1, bind_some, tx2, bind_some, tx3, bind_some]
  rw [at_may [((4 : Int), (1 : Int)), ((5 : Int), (2 : Int))] (by decide), bind_some, at_may [((0 : Int), (1 : Int))] (by decide), bind_some, show decide ([((4 : Int), (1 : Int)), ((5 : Int), (2 : Int))] = norm [((4 : Int), (1 : Int)), ((5 : Int), (2 : Int))]) = true by decide +kernel, show decide ([((0 : Int), (1 : Int))] = norm [((0 : Int), (1 : Int))]) = false by decide +kernel]
  rw [at_has _ _ (by decide), bind_some, at_within _ _ (by decide) (by decide), bind_some]
  decide +kernel
end Go.PL
end
section
/- Law 06: unions. -/
open Go Go.PG Go.PL
set_option linter.all false
namespace Go.PL
theorem canon_same {l m : List At} (hl : Canon l) (hm : Canon m) (h : ∀ z, z ∈ l ↔ z ∈ m) : l = m := rises_ext hl.1 hm.1 h
theorem mem_un {l m : List At} (hl : Canon l) (hm : Canon m) {z : At} : z ∈ norm (l ++ m) ↔ z ∈ l ∨ z ∈ m := by
  rw [mem_norm, List.mem_append]
  exact ⟨fun h => h.1, fun h => ⟨h, h.elim (hl.2 z) (hm.2 z)⟩⟩
theorem c_ndec {α : Type} (p : Prop) [Decidable p] (x y : α) : P.cond (P.not (decide p)) x y = if p then y else x := by
  by_cases h : p
  · rw [decide_eq_true h, if_pos h]; rfl
  · rw [decide_eq_false h, if_neg h]; rfl
theorem c_len {α β : Type} (l : List α) (x y : β) : P.cond (P.ilt (100 : Int) (P.len l)) x y = if l.length ≤ 100 then y else x := by
  by_cases h : l.length ≤ 100
  · rw [if_pos h, show P.ilt (100 : Int) (P.len l) = false from by rw [Bool.eq_false_iff, Ne, ilt_iff, len_eq]; omega]; rfl
  · rw [if_neg h, show P.ilt (100 : Int) (P.len l) = true from by rw [ilt_iff, len_eq]; omega]; rfl
theorem un_len (a b : List At) : (norm (a ++ b)).length ≤ a.length + b.length := by
  have := norm_length (a ++ b); rwa [List.length_append] at this
theorem union6 (x : List At × List At × List At) : law06_AtomsUnion K x = some true := by
  obtain ⟨a, b, c⟩ := x
  unfold law06_AtomsUnion
  try dsimp only
  rw [fixed6, bind_some, bind_some, show P.not true = false from rfl, cond_false, c_len, c_len, c_len]
  by_cases la : a.length ≤ 100
  case neg => rw [if_neg la]
  by_cases lb : b.length ≤ 100
  case neg => rw [if_pos la, if_neg lb]
  by_cases lc : c.length ≤ 100
  case neg => rw [if_pos la, if_pos lb, if_neg lc]
  rw [if_pos la, if_pos lb, if_pos lc, at_may a (by omega), bind_some, c_ndec]
  by_cases ma : a = norm a
  case neg => rw [if_neg ma]
  rw [if_pos ma, at_may b (by omega), bind_some, c_ndec]
  by_cases mb : b = norm b
  case neg => rw [if_neg mb]
  rw [if_pos mb, at_may c (by omega), bind_some, c_ndec]
  by_cases mc : c = norm c
  case neg => rw [if_neg mc]
  rw [if_pos mc]
  have ca := canon_iff.1 ma
  have cb := canon_iff.1 mb
  have cc := canon_iff.1 mc
  have cu := norm_canon (a ++ b)
  have hul := un_len a b
  have hmu : ∀ z, z ∈ norm (a ++ b) ↔ z ∈ a ∨ z ∈ b := fun z => mem_un ca cb
  have e1 := at_union a b (by omega)
  have e2 := at_union b a (by omega)
  have e4 := at_union b c (by omega)
  generalize hu : norm (a ++ b) = u at *
  have ebc := un_len b c
  have cbc := norm_canon (b ++ c)
  have hbc : ∀ z, z ∈ norm (b ++ c) ↔ z ∈ b ∨ z ∈ c := fun z => mem_un cb cc
  have s1 : decide (u = norm (b ++ a)) = true := decide_eq_true (canon_same cu (norm_canon _) fun z => by rw [hmu, mem_un cb ca]; exact Or.comm)
  have s2 : decide (u = norm (u ++ a)) = true := decide_eq_true (canon_same cu (norm_canon _) fun z => by rw [mem_un cu ca, hmu]; exact ⟨fun h => .inl h, fun h => h.elim id .inl⟩)
  have s3 : decide (norm (u ++ c) = norm (a ++ norm (b ++ c))) = true := decide_eq_true (canon_same (norm_canon _) (norm_canon _) fun z => by rw [mem_un cu cc, mem_un ca cbc, hmu, hbc]; exact or_assoc)
  have w1 : decide (Within a u) = true := decide_eq_true fun z hz => (hmu z).2 (.inl hz)
  have w2 : decide (Within b u) = true := decide_eq_true fun z hz => (hmu z).2 (.inr hz)
  have m1 : decide (u = norm u) = true := decide_eq_true (canon_iff.2 cu)
  have fin : (P.cond (decide (Within a b)) (some (P.beq (decide (Within b a)) (decide (a = b)))) (some (P.beq false (decide (a = b))))) = some true := by
    by_cases q : Within a b
    · rw [decide_eq_true q]
      by_cases q2 : Within b a
      · rw [decide_eq_true q2, decide_eq_true (canon_same ca cb fun z => ⟨q z, q2 z⟩)]; rfl
      · rw [decide_eq_false q2, decide_eq_false (fun e : a = b => q2 (by rw [e]; exact fun _ h => h))]; rfl
    · rw [decide_eq_false q, decide_eq_false (fun e : a = b => q (by rw [e]; exact fun _ h => h))]; rfl
  have g1 := at_may u (by omega)
  have g2 := at_within a u (by omega) (by omega)
  have g3 := at_within b u (by omega) (by omega)
  have g4 := ref_same u (norm (b ++ a)) (by omega)
  have g5 := at_union u a (by omega)
  have g6 := ref_same u (norm (u ++ a)) (by omega)
  have g7 := at_within a c (by omega) (by omega)
  have g8 := at_within b c (by omega) (by omega)
  have g9 := at_within u c (by omega) (by omega)
  have g10 := at_union u c (by omega)
  have g11 := at_union a (norm (b ++ c)) (by omega)
  have g12 := ref_same (norm (u ++ c)) (norm (a ++ norm (b ++ c))) (by have := un_len u c; omega)
  have g13 := at_within a b (by omega) (by omega)
  have g14 := at_within b a (by omega) (by omega)
  have g15 := ref_same a b (by omega)
  have nt : P.not true = false := rfl
  simp only [e1, e2, e4, bind_some, g1, m1, nt, cond_false, g2, w1, g3, w2, g4, s1, g5, g6, s2, g7, g8, g9, g10, g11, g12, s3, cond_true, g13, g14, g15, fin]
  by_cases q1 : Within a c
  · rw [decide_eq_true q1, cond_true]
    by_cases q2 : Within b c
    · rw [decide_eq_true q2, cond_true, decide_eq_true (show Within u c from fun z hz => ((hmu z).1 hz).elim (q1 z) (q2 z)), nt, cond_false]
    · rw [decide_eq_false q2, cond_false]
  · rw [decide_eq_false q1, cond_false]
end Go.PL
end
section
/- Texts of atoms: names, digits, what both sides write. -/
open Go Go.PG Go.PL
set_option linter.all false
namespace Go.PL
def B (l : List UInt8) : ByteArray := ⟨l.toArray⟩
theorem B_size (l : List UInt8) : (B l).size = l.length := by simp [B, ByteArray.size]
theorem B_data (l : List UInt8) : (B l).data.toList = l := by simp [B]
theorem B_eta (b : ByteArray) : b = B b.data.toList := by cases b; simp [B]
theorem B_inj {l m : List UInt8} : B l = B m ↔ l = m := ⟨fun h => by have := congrArg (fun b : ByteArray => b.data.toList) h; simpa [B] using this, fun h => by rw [h]⟩
theorem scat_B (l m : List UInt8) : P.scat (B l) (B m) = B (l ++ m) := ba_ext (by simp [P.scat, B])
theorem sfit_B (l m : List UInt8) (h : l.length + m.length ≤ 9223372036854775807) : P.sfit (B l) (B m) = true := by
  unfold P.sfit
  rw [B_size, B_size]
  rw [Nat.ble_eq]; exact h
theorem sfit_iff {x y : ByteArray} : P.sfit x y = true ↔ x.size + y.size ≤ 9223372036854775807 := by unfold P.sfit; rw [Nat.ble_eq]
theorem seq_eq (a b : ByteArray) : P.seq a b = decide (a = b) := by rw [Bool.eq_iff_iff, seq_iff, decide_eq_true_eq]

/-! ### numbers' texts -/
theorem dig_fin : ∀ i : Fin 10, P.ssub { data := #[48, 49, 50, 51, 52, 53, 54, 55, 56, 57] } ((i.val : Nat) : Int) ((i.val + 1 : Nat) : Int) = B [UInt8.ofNat (48 + i.val)] := by decide +kernel
theorem dig_at {n : Nat} (h : n < 10) : P.ssub { data := #[48, 49, 50, 51, 52, 53, 54, 55, 56, 57] } (n : Int) ((n + 1 : Nat) : Int) = B [UInt8.ofNat (48 + n)] := dig_fin ⟨n, h⟩
theorem dig_len : P.slen { data := #[48, 49, 50, 51, 52, 53, 54, 55, 56, 57] } = 10 := by decide
theorem rem_nat (a b : Nat) : P.rem (a : Int) (b : Int) = ((a % b : Nat) : Int) := by cases b <;> rfl
theorem quo_nat (a b : Nat) : P.quo (a : Int) (b : Int) = ((a / b : Nat) : Int) := by cases b <;> rfl
theorem nDigits_le : ∀ (u k : Nat), u < 10 ^ (k + 1) → Lib.nDigits u ≤ k + 1
  | u, 0, h => by rw [Lib.nDigits_small (by simpa using h)]; exact Nat.le_refl _
  | u, k + 1, h => by
    by_cases q : u < 10
    · rw [Lib.nDigits_small q]; omega
    · rw [Lib.nDigits_big q]
      have := nDigits_le (u / 10) k (by rw [Nat.pow_succ] at h; omega)
      omega
theorem ref_digits (u : Nat) (hu : u < 18446744073709551616) : ref03_Digits K (u : Int) = some (B (Lib.decDigits u)) := by
  unfold ref03_Digits
  generalize hf : (fun (y : Int × ByteArray) => _ : Int × ByteArray → Option ((Int × ByteArray) ⊕ ((Int × ByteArray) ⊕ ByteArray))) = f
  have key : ∀ (v k : Nat) (s : List UInt8), v < 18446744073709551616 → v < k → s.length + Lib.nDigits v ≤ 20 → ∃ (d : Nat) (t : List UInt8), d < 10 ∧ t.length ≤ 20 ∧ P.iter k f ((v : Int), B s) = some (.inl ((d : Int), B t)) ∧ UInt8.ofNat (48 + d) :: t = Lib.decDigits v ++ s := by
    intro v
    induction v using Nat.strongRecOn with
    | _ v ih =>
      intro k s hv hk hs
      by_cases q : v < 10
      · refine ⟨v, s, q, by omega, ?_, by rw [Lib.decDigits_one q]; rfl⟩
        refine iter_done (by omega) ?_
        rw [← hf]
        simp only [cond_eq, ilt_iff]
        rw [if_neg (by omega)]
      · rw [Lib.nDigits_big q] at hs
        obtain ⟨d, t, h1, h2, h3, h4⟩ := ih (v / 10) (by omega) (k - 1) (UInt8.ofNat (48 + v % 10) :: s) (by omega) (by omega) (by simp only [List.length_cons]; omega)
        refine ⟨d, t, h1, h2, ?_, ?_⟩
        · rw [iter_step (y := (((v / 10 : Nat) : Int), B (UInt8.ofNat (48 + v % 10) :: s))) (by omega)]
          · exact h3
          · rw [← hf]
            have e1 : P.rem (v : Int) 10 = ((v % 10 : Nat) : Int) := rem_nat v 10
            have e2 : P.quo (v : Int) 10 = ((v / 10 : Nat) : Int) := quo_nat v 10
            have e3 : P.wrap .u64 (P.add ((v % 10 : Nat) : Int) 1) = ((v % 10 + 1 : Nat) : Int) := by rw [wrap_u64 (by simp only [P.add]; omega) (by simp only [P.add]; omega)]; simp only [P.add]; omega
            have e4 : P.wrap .u64 ((v / 10 : Nat) : Int) = ((v / 10 : Nat) : Int) := wrap_u64 (by omega) (by omega)
            simp only [e1, e2, e3, e4, dig_at (show v % 10 < 10 by omega), dig_len]
            simp only [cond_eq, ilt_iff, cut_iff, show P.not (P.ieq (10 : Int) 0) = true from rfl, if_true, scat_B]
            rw [if_pos (by omega), if_pos ⟨by omega, by omega, by omega⟩, if_pos (sfit_B _ _ (by simp only [List.length_cons, List.length_nil]; omega))]
            rfl
        · rw [h4, Lib.decDigits.eq_1 v, dif_neg q]
          simp
  have h20 : Lib.nDigits u ≤ 20 := nDigits_le u 19 (by omega)
  obtain ⟨d, t, h1, h2, h3, h4⟩ := key u K [] hu (by unfold K; omega) (by simpa using h20)
  have h3 : P.iter K f ((u : Int), { data := #[] }) = some (.inl ((d : Int), B t)) := h3
  rw [h3, bind_some, either_inl]
  have e3 : P.wrap .u64 (P.add (d : Int) 1) = ((d + 1 : Nat) : Int) := by rw [wrap_u64 (by simp only [P.add]; omega) (by simp only [P.add]; omega)]; simp only [P.add]; omega
  simp only [e3, dig_at h1, dig_len, cond_eq, cut_iff, scat_B]
  rw [if_pos ⟨by omega, by omega, by omega⟩, if_pos (sfit_B _ _ (by simp only [List.length_cons, List.length_nil]; omega))]
  rw [List.append_nil] at h4
  rw [← h4]; rfl
def InI (n : Int) : Prop := -9223372036854775808 ≤ n ∧ n ≤ 9223372036854775807
theorem itoa_len {n : Int} (h : InI n) : (Lib.itoa n).length ≤ 21 := Lib.itoa_length_le n h.1 h.2
theorem at_itoa (k : Nat) (n : Int) (h : InI n) : strconv_Itoa k n = some (B (Lib.itoa n)) := by
  unfold strconv_Itoa
  exact if_pos h
theorem ref_signed (n : Int) (h : InI n) : ref03_Signed K n = some (B (Lib.itoa n)) := by
  unfold ref03_Signed
  unfold InI at h
  have hl := itoa_len h
  by_cases q : n < 0
  · obtain ⟨u, rfl⟩ : ∃ u : Nat, n = -(u : Int) := ⟨n.natAbs, by omega⟩
    have e : P.wrap .u64 (P.add (P.wrap .u64 (P.wrap .i64 (P.sub 0 (P.wrap .i64 (P.add (-(u : Int)) 1))))) 1) = (u : Int) := by
      rw [wrap_i64 (x := P.add (-(u : Int)) 1) (by simp only [P.add]; omega) (by simp only [P.add]; omega), wrap_i64 (by simp only [P.add, P.sub]; omega) (by simp only [P.add, P.sub]; omega), wrap_u64 (x := P.sub 0 (P.add (-(u : Int)) 1)) (by simp only [P.add, P.sub]; omega) (by simp only [P.add, P.sub]; omega), wrap_u64 (by simp only [P.add, P.sub]; omega) (by simp only [P.add, P.sub]; omega)]
      simp only [P.add, P.sub]; omega
    rw [e, ref_digits u (by omega), bind_some]
    rw [Lib.itoa_neg u (by omega)] at hl ⊢
    rw [show P.ilt (-(u : Int)) 0 = true from ilt_iff.2 q, cond_true]
    have : ({ data := #[45] } : ByteArray) = B [45] := rfl
    rw [this, sfit_B _ _ (by simp only [List.length_cons, List.length_nil] at hl ⊢; omega), cond_true, scat_B]; rfl
  · obtain ⟨u, rfl⟩ : ∃ u : Nat, n = (u : Int) := ⟨n.toNat, by omega⟩
    rw [show P.ilt (u : Int) 0 = false from by rw [Bool.eq_false_iff, Ne, ilt_iff]; omega, cond_false, wrap_u64 (by omega) (by omega), ref_digits u (by omega), bind_some, Lib.itoa_nonneg]
end Go.PL
end
section
/- Texts of lists of atoms: both sides write the same. -/
open Go Go.PG Go.PL
set_option linter.all false
namespace Go.PL
/-- An atom's name. -/
def nameA (a : At) : List UInt8 :=
  if a.1 = 0 then [110, 117, 108, 108] else if a.1 = 1 then [98, 111, 111, 108] else if a.1 = 2 then [110, 117, 109]
  else if a.1 = 3 then [102, 117, 110] ++ Lib.itoa a.2 else if a.1 = 4 then [114, 101, 99] ++ Lib.itoa a.2 else if a.1 = 5 then [115, 117, 109] ++ Lib.itoa a.2
  else if a.1 = 6 then [97, 110, 121] else [63]
def textA (l : List At) : List UInt8 := Lib.join (l.map nameA) [32]
/-- In a machine's range. -/
def InA (l : List At) : Prop := ∀ a, a ∈ l → InI a.2
theorem nameA_len {a : At} (h : InI a.2) : (nameA a).length ≤ 24 := by
  have := itoa_len h
  unfold nameA
  repeat' split
  all_goals simp only [List.length_append, List.length_cons, List.length_nil]; omega
theorem at_name (k : Nat) (a : At) (h : InI a.2) : atoms_name k a = some (B (nameA a)) := by
  have hl := itoa_len h
  unfold atoms_name nameA
  simp only [cond_eq, ieq_iff, at_itoa k a.2 h, bind_some]
  have e3 : ({ data := #[102, 117, 110] } : ByteArray) = B [102, 117, 110] := rfl
  have e4 : ({ data := #[114, 101, 99] } : ByteArray) = B [114, 101, 99] := rfl
  have e5 : ({ data := #[115, 117, 109] } : ByteArray) = B [115, 117, 109] := rfl
  rw [e3, e4, e5, if_pos (sfit_B _ _ (by simp only [List.length_cons, List.length_nil]; omega)), if_pos (sfit_B _ _ (by simp only [List.length_cons, List.length_nil]; omega)), if_pos (sfit_B _ _ (by simp only [List.length_cons, List.length_nil]; omega)), scat_B, scat_B, scat_B]
  repeat' split
  all_goals rfl
theorem join_snoc (sep y : List UInt8) (xs : List (List UInt8)) : Lib.join (xs ++ [y]) sep = Lib.join xs sep ++ (if xs = [] then y else sep ++ y) := by
  cases xs with
  | nil => simp [Lib.join_one, Lib.join_nil]
  | cons x r => rw [List.cons_append, Lib.join_cons, Lib.join_cons, Lib.joinTail, Lib.joinTail]; simp
theorem textA_snoc (l : List At) (a : At) : textA (l ++ [a]) = textA l ++ (if l = [] then nameA a else 32 :: nameA a) := by
  unfold textA
  rw [List.map_append, List.map_cons, List.map_nil, join_snoc]
  by_cases h : l = []
  · subst h; rfl
  · rw [if_neg (by simpa using h), if_neg h]; rfl
theorem snoc_ind {α : Type} {p : List α → Prop} (h0 : p []) (h1 : ∀ l a, p l → p (l ++ [a])) : ∀ l, p l := by
  intro l
  have : ∀ m : List α, p m.reverse := by
    intro m
    induction m with
    | nil => exact h0
    | cons a m ih => rw [List.reverse_cons]; exact h1 _ _ ih
  have := this l.reverse
  rwa [List.reverse_reverse] at this
theorem textA_len : ∀ {l : List At}, InA l → (textA l).length ≤ 25 * l.length := by
  intro l
  refine snoc_ind (p := fun l => InA l → (textA l).length ≤ 25 * l.length) ?_ ?_ l
  · intro _; simp [textA, Lib.join_nil]
  · intro l a ih h
    have h1 := ih fun z hz => h z (by simp [hz])
    have h2 := nameA_len (h a (by simp))
    rw [textA_snoc, List.length_append, List.length_append]
    split
    · simp only [List.length_cons, List.length_nil]; omega
    · simp only [List.length_cons, List.length_nil]; omega
theorem at_join (k : Nat) (l : List At) (h : InA l) (hl : l.length ≤ 1000000) : strings_Join k (l.map (fun a => B (nameA a)), { data := #[32] }) = some (B (textA l)) := by
  have h1 := textA_len h
  unfold strings_Join
  have e : (l.map (fun a => B (nameA a))).map (fun b => b.data.toList) = l.map nameA := by
    rw [List.map_map]; exact List.map_congr_left fun a _ => B_data _
  simp only [e]
  rw [if_pos ⟨by rw [List.length_map]; omega, by show (textA l).length ≤ _; omega⟩]
  rfl
theorem at_text (l : List At) (h : InA l) (hl : l.length ≤ 1000000) : atoms_Text K l = some (B (textA l)) := by
  unfold atoms_Text
  have := iter_run (f := (fun (y : List ByteArray × Int) => P.cond (P.ilt y.snd (P.len l)) (P.cond (P.inb y.snd (P.len l)) (P.bind (atoms_name K (P.get l y.snd ((0 : Int), (0 : Int)))) fun (r : ByteArray) => P.cond (P.room (P.add (P.len y.fst) (P.len [r])) 16) (some (Sum.inl (P.app y.fst [r], P.wrap IntKind.i64 (P.add y.snd (1 : Int))))) none) none) (some (Sum.inr (Sum.inl (β := ByteArray) y.fst))))) (fun i => ((l.take i).map (fun a => B (nameA a)), (i : Int))) (.inl (l.map (fun a => B (nameA a)))) l.length 0 K (by unfold K; omega) (fun j hj => ?_) ?_
  · rw [List.take_zero, List.map_nil] at this
    rw [show ((0 : Nat) : Int) = 0 from rfl] at this
    rw [this, bind_some, either_inl, at_join K l h hl, bind_some]
  · simp only [Nat.zero_add, cond_eq, ilt_iff, inb_iff, len_eq]
    rw [if_pos (by omega), if_pos ⟨by omega, by omega⟩, get_lt l hj, at_name K _ (h _ (List.getElem_mem hj)), bind_some, if_pos (by rw [room_nat]; simp only [List.length_map, List.length_take, List.length_cons, List.length_nil]; omega), wrap_succ (by omega)]
    rw [List.take_add_one, List.getElem?_eq_getElem hj, List.map_append]
    rfl
  · simp only [Nat.zero_add, cond_eq, ilt_iff, len_eq]
    rw [if_neg (by omega), List.take_length]
/-- A word by its kind. -/
theorem words_get {k : Int} (h0 : 0 ≤ k) (h6 : k ≤ 6) : P.get [({ data := #[110, 117, 108, 108] } : ByteArray), { data := #[98, 111, 111, 108] }, { data := #[110, 117, 109] }, { data := #[102, 117, 110] }, { data := #[114, 101, 99] }, { data := #[115, 117, 109] }, { data := #[97, 110, 121] }] k { data := #[] } =
    B (if k = 0 then [110, 117, 108, 108] else if k = 1 then [98, 111, 111, 108] else if k = 2 then [110, 117, 109] else if k = 3 then [102, 117, 110] else if k = 4 then [114, 101, 99] else if k = 5 then [115, 117, 109] else [97, 110, 121]) := by
  have : k = 0 ∨ k = 1 ∨ k = 2 ∨ k = 3 ∨ k = 4 ∨ k = 5 ∨ k = 6 := by omega
  rcases this with rfl | rfl | rfl | rfl | rfl | rfl | rfl <;> rfl
def wordA (k : Int) : List UInt8 := if k = 0 then [110, 117, 108, 108] else if k = 1 then [98, 111, 111, 108] else if k = 2 then [110, 117, 109] else if k = 3 then [102, 117, 110] else if k = 4 then [114, 101, 99] else if k = 5 then [115, 117, 109] else [97, 110, 121]
theorem wordA_len (k : Int) : (wordA k).length ≤ 4 := by
  unfold wordA
  repeat' split
  all_goals decide
theorem nameA_word {a : At} (h0 : 0 ≤ a.1) (h6 : a.1 ≤ 6) : nameA a = wordA a.1 ++ (if 3 ≤ a.1 ∧ a.1 ≤ 5 then Lib.itoa a.2 else []) := by
  obtain ⟨k, n⟩ := a
  have h0 : 0 ≤ k := h0
  have h6 : k ≤ 6 := h6
  have : k = 0 ∨ k = 1 ∨ k = 2 ∨ k = 3 ∨ k = 4 ∨ k = 5 ∨ k = 6 := by omega
  rcases this with rfl | rfl | rfl | rfl | rfl | rfl | rfl <;> simp [nameA, wordA]
theorem nameA_q {a : At} (h : a.1 < 0 ∨ 6 < a.1) : nameA a = [63] := by
  unfold nameA
  rw [if_neg (by omega), if_neg (by omega), if_neg (by omega), if_neg (by omega), if_neg (by omega), if_neg (by omega), if_neg (by omega)]
theorem ref_text (l : List At) (h : InA l) (hl : l.length ≤ 1000000) : ref06_Text K l = some (B (textA l)) := by
  unfold ref06_Text
  generalize hf : (fun (y : ByteArray × Int) => _ : ByteArray × Int → Option ((ByteArray × Int) ⊕ (ByteArray ⊕ ByteArray))) = f
  have := iter_run (f := f) (fun i => (B (textA (l.take i)), (i : Int))) (.inl (B (textA l))) l.length 0 K (by unfold K; omega) (fun j hj => ?_) ?_
  · rw [List.take_zero] at this
    have this : P.iter K f ({ data := #[] }, 0) = _ := this
    rw [this, bind_some, either_inl]
  · rw [← hf]
    simp only [Nat.zero_add]
    have hin := h _ (List.getElem_mem hj)
    have htk : (textA (l.take j)).length ≤ 25 * j := by
      have := textA_len (l := l.take j) fun z hz => h z (List.mem_of_mem_take hz)
      rw [List.length_take] at this
      omega
    have hit := itoa_len hin
    have hwl := wordA_len (l[j]).1
    have hs : textA (l.take (j + 1)) = textA (l.take j) ++ (if j = 0 then nameA l[j] else 32 :: nameA l[j]) := by
      rw [List.take_add_one, List.getElem?_eq_getElem hj, Option.toList_some, textA_snoc]
      congr 1
      by_cases q : j = 0
      · rw [if_pos q, if_pos (by rw [q]; rfl)]
      · rw [if_neg q, if_neg (by intro e; have := congrArg List.length e; rw [List.length_take] at this; simp only [List.length_nil] at this; omega)]
    rw [hs, get_lt l hj]
    generalize l[j] = a at *
    obtain ⟨k, n⟩ := a
    have hin : InI n := hin
    have hit : (Lib.itoa n).length ≤ 21 := hit
    have hwl : (wordA k).length ≤ 4 := hwl
    simp only [ref_signed n hin, bind_some]
    generalize textA (l.take j) = s at *
    rw [show P.ilt (j : Int) (P.len l) = true from ilt_iff.2 (by rw [len_eq]; omega), cond_true, show P.inb (j : Int) (P.len l) = true from inb_iff.2 (by rw [len_eq]; omega), wrap_succ (by omega)]
    simp only [cond_true]
    have e32 : ({ data := #[32] } : ByteArray) = B [32] := rfl
    have e63 : ({ data := #[63] } : ByteArray) = B [63] := rfl
    rw [e32, e63]
    have body : ∀ (t : List UInt8), t.length ≤ 25000001 → (P.cond (P.ilt k (0 : Int)) (P.cond (P.sfit (B t) (B [63])) (some (Sum.inl (P.scat (B t) (B [63]), ((j + 1 : Nat) : Int)))) (none : Option ((ByteArray × Int) ⊕ (ByteArray ⊕ ByteArray)))) (P.cond (P.ilt (6 : Int) k) (P.cond (P.sfit (B t) (B [63])) (some (Sum.inl (P.scat (B t) (B [63]), ((j + 1 : Nat) : Int)))) none)
        (P.cond (P.inb k (P.len [({ data := #[110, 117, 108, 108] } : ByteArray), { data := #[98, 111, 111, 108] }, { data := #[110, 117, 109] }, { data := #[102, 117, 110] }, { data := #[114, 101, 99] }, { data := #[115, 117, 109] }, { data := #[97, 110, 121] }]))
          (P.cond (P.sfit (B t) (P.get [({ data := #[110, 117, 108, 108] } : ByteArray), { data := #[98, 111, 111, 108] }, { data := #[110, 117, 109] }, { data := #[102, 117, 110] }, { data := #[114, 101, 99] }, { data := #[115, 117, 109] }, { data := #[97, 110, 121] }] k { data := #[] }))
            (P.cond (P.ile (3 : Int) k) (P.cond (P.ile k (5 : Int)) (P.cond (P.sfit (P.scat (B t) (P.get [({ data := #[110, 117, 108, 108] } : ByteArray), { data := #[98, 111, 111, 108] }, { data := #[110, 117, 109] }, { data := #[102, 117, 110] }, { data := #[114, 101, 99] }, { data := #[115, 117, 109] }, { data := #[97, 110, 121] }] k { data := #[] })) (B (Lib.itoa n)))
              (some (Sum.inl (P.scat (P.scat (B t) (P.get [({ data := #[110, 117, 108, 108] } : ByteArray), { data := #[98, 111, 111, 108] }, { data := #[110, 117, 109] }, { data := #[102, 117, 110] }, { data := #[114, 101, 99] }, { data := #[115, 117, 109] }, { data := #[97, 110, 121] }] k { data := #[] })) (B (Lib.itoa n)), ((j + 1 : Nat) : Int)))) none)
              (some (Sum.inl (P.scat (B t) (P.get [({ data := #[110, 117, 108, 108] } : ByteArray), { data := #[98, 111, 111, 108] }, { data := #[110, 117, 109] }, { data := #[102, 117, 110] }, { data := #[114, 101, 99] }, { data := #[115, 117, 109] }, { data := #[97, 110, 121] }] k { data := #[] }), ((j + 1 : Nat) : Int)))))
              (some (Sum.inl (P.scat (B t) (P.get [({ data := #[110, 117, 108, 108] } : ByteArray), { data := #[98, 111, 111, 108] }, { data := #[110, 117, 109] }, { data := #[102, 117, 110] }, { data := #[114, 101, 99] }, { data := #[115, 117, 109] }, { data := #[97, 110, 121] }] k { data := #[] }), ((j + 1 : Nat) : Int))))) none) none))) = some (.inl (B (t ++ nameA (k, n)), ((j + 1 : Nat) : Int))) := by
      intro t ht
      by_cases q0 : k < 0
      · rw [nameA_q (.inl q0), show P.ilt k 0 = true from ilt_iff.2 q0, cond_true, sfit_B _ _ (by simp only [List.length_cons, List.length_nil]; omega), cond_true, scat_B]
      · rw [show P.ilt k 0 = false from by rw [Bool.eq_false_iff, Ne, ilt_iff]; exact q0, cond_false]
        by_cases q6 : 6 < k
        · rw [nameA_q (.inr q6), show P.ilt 6 k = true from ilt_iff.2 q6, cond_true, sfit_B _ _ (by simp only [List.length_cons, List.length_nil]; omega), cond_true, scat_B]
        · rw [show P.ilt 6 k = false from by rw [Bool.eq_false_iff, Ne, ilt_iff]; exact q6, cond_false, show P.inb k (P.len [({ data := #[110, 117, 108, 108] } : ByteArray), { data := #[98, 111, 111, 108] }, { data := #[110, 117, 109] }, { data := #[102, 117, 110] }, { data := #[114, 101, 99] }, { data := #[115, 117, 109] }, { data := #[97, 110, 121] }]) = true from inb_iff.2 (by show 0 ≤ k ∧ k < 7; omega), cond_true, words_get (by omega) (by omega)]
          change P.cond (P.sfit (B t) (B (wordA k))) (P.cond (P.ile 3 k) (P.cond (P.ile k 5) (P.cond (P.sfit (P.scat (B t) (B (wordA k))) (B (Lib.itoa n))) (some (Sum.inl (P.scat (P.scat (B t) (B (wordA k))) (B (Lib.itoa n)), _))) none) (some (Sum.inl (P.scat (B t) (B (wordA k)), _)))) (some (Sum.inl (P.scat (B t) (B (wordA k)), _)))) none = _
          rw [nameA_word (by show 0 ≤ k; omega) (by show k ≤ 6; omega)]
          rw [sfit_B _ _ (by omega), cond_true, scat_B, sfit_B _ _ (by simp only [List.length_append]; omega), cond_true, scat_B]
          simp only [cond_eq, ile_iff]
          by_cases q3 : 3 ≤ k
          · by_cases q5 : k ≤ 5
            · rw [if_pos q3, if_pos q5, if_pos ⟨q3, q5⟩, List.append_assoc]
            · rw [if_pos q3, if_neg q5, if_neg (fun h => q5 h.2), List.append_nil]
          · rw [if_neg q3, if_neg (fun h => q3 h.1), List.append_nil]
    by_cases q : j = 0
    · rw [show P.ilt 0 (j : Int) = false from by rw [Bool.eq_false_iff, Ne, ilt_iff]; omega, cond_false, if_pos q]
      exact body s (by omega)
    · rw [show P.ilt 0 (j : Int) = true from ilt_iff.2 (by omega), cond_true, if_neg q, sfit_B _ _ (by simp only [List.length_cons, List.length_nil]; omega), cond_true, scat_B, show s ++ 32 :: nameA (k, n) = (s ++ [32]) ++ nameA (k, n) from by simp]
      exact body (s ++ [32]) (by simp only [List.length_append, List.length_cons, List.length_nil]; omega)
  · rw [← hf]
    simp only [Nat.zero_add]
    rw [show P.ilt (l.length : Int) (P.len l) = false from by rw [Bool.eq_false_iff, Ne, ilt_iff, len_eq]; omega, cond_false, List.take_length]
end Go.PL
end
section
/- Law 06: renamed lists, what is in a list, what both sides tell, texts. -/
open Go Go.PG Go.PL
set_option linter.all false
namespace Go.PL
theorem g6 {b : Bool} {F X : Option Bool} (h : b = true → X = some true) (hF : F = some true := by first | rfl | (rw [fixed6]; rfl)) : P.cond (P.not b) F X = some true := by
  cases b
  · rw [show P.not false = true from rfl, cond_true, hF]
  · rw [show P.not true = false from rfl, cond_false]; exact h rfl
theorem g6l {l : List At} {F X : Option Bool} (h : l.length ≤ 100 → X = some true) (hF : F = some true := by first | rfl | (rw [fixed6]; rfl)) : P.cond (P.ilt (100 : Int) (P.len l)) F X = some true := by
  rw [c_len]
  split
  · rename_i q; exact h q
  · exact hF
theorem n6 {X : Option Bool} {p : Prop} [Decidable p] (hp : p) (h : X = some true) : P.cond (P.not (decide p)) (some false) X = some true := by
  rw [decide_eq_true hp, show P.not true = false from rfl, cond_false]; exact h
theorem y6 {X : Option Bool} {p : Prop} [Decidable p] (hp : p) (h : X = some true) : P.cond (decide p) X (some false) = some true := by
  rw [decide_eq_true hp, cond_true]; exact h
theorem b6 {X : Option Bool} {p q : Prop} [Decidable p] [Decidable q] (hp : p ↔ q) (h : X = some true) : P.cond (P.beq (decide p) (decide q)) X (some false) = some true := by
  rw [show decide p = decide q from decide_eq_decide.2 hp, show P.beq (decide q) (decide q) = true from beq_iff.2 rfl, cond_true]; exact h
theorem e6 {p q : Prop} [Decidable p] [Decidable q] (hp : p ↔ q) : some (P.beq (decide p) (decide q)) = some true := by
  rw [show decide p = decide q from decide_eq_decide.2 hp, show P.beq (decide q) (decide q) = true from beq_iff.2 rfl]
theorem renA_right {s : Int} {x : At} (h : RightA x) : RightA (renA s x) := by
  unfold renA
  split
  · rename_i q; subst q; unfold RightA at *; simp only at *; omega
  · exact h
theorem renA_ne {s : Int} {x : At} : renA s x ≠ (4, s) := by
  unfold renA
  split
  · intro h; have := congrArg Prod.fst h; simp at this
  · rename_i q; exact q
theorem renA_twice {s : Int} {x : At} : renA s (renA s x) = renA s x := by
  show (if renA s x = (4, s) then (5, s) else renA s x) = renA s x
  rw [if_neg renA_ne]
theorem mem_ren {l : List At} {s : Int} (hl : Canon l) {z : At} : z ∈ norm (l.map (renA s)) ↔ ∃ x, x ∈ l ∧ renA s x = z := by
  rw [mem_norm, List.mem_map]
  exact ⟨fun h => h.1, fun ⟨x, h1, h2⟩ => ⟨⟨x, h1, h2⟩, h2 ▸ renA_right (hl.2 x h1)⟩⟩
theorem ren_len (l : List At) (s : Int) : (norm (l.map (renA s))).length ≤ l.length := by
  have := norm_length (l.map (renA s)); rwa [List.length_map] at this
theorem renamed6 (x : List At × List At × Int) : law06_AtomsRenamed K x = some true := by
  obtain ⟨a, b, s⟩ := x
  unfold law06_AtomsRenamed
  try dsimp only
  rw [fixed6, bind_some]
  rw [show P.not true = false from rfl, cond_false]
  refine g6l fun la => g6l fun lb => ?_
  rw [at_may a (by omega), bind_some]
  refine g6 fun ma => ?_
  rw [at_may b (by omega), bind_some]
  refine g6 fun mb => ?_
  have ca := canon_iff.1 (of_decide_eq_true ma)
  have cb := canon_iff.1 (of_decide_eq_true mb)
  have hra : ∀ z, z ∈ norm (a.map (renA s)) ↔ ∃ x, x ∈ a ∧ renA s x = z := fun z => mem_ren ca
  have hrb : ∀ z, z ∈ norm (b.map (renA s)) ↔ ∃ x, x ∈ b ∧ renA s x = z := fun z => mem_ren cb
  rw [at_rename a s (by omega), bind_some, at_rename b s (by omega), bind_some]
  have cra := norm_canon (a.map (renA s))
  have crb := norm_canon (b.map (renA s))
  have hla := ren_len a s
  have hlb := ren_len b s
  generalize norm (a.map (renA s)) = r at *
  generalize norm (b.map (renA s)) = t at *
  rw [at_has _ _ (by omega), bind_some, decide_eq_false (show ¬ (((4 : Int), s) ∈ r) from fun h => by obtain ⟨x, _, h2⟩ := (hra _).1 h; exact renA_ne h2), cond_false]
  have hrr := ren_len r s
  rw [at_rename r s (by omega), bind_some, ref_same _ _ (by omega), bind_some]
  refine n6 (canon_same (norm_canon _) cra fun z => ?_) ?_
  · rw [mem_ren cra]
    constructor
    · rintro ⟨x, h1, h2⟩
      obtain ⟨y, h3, h4⟩ := (hra x).1 h1
      rw [← h2, ← h4, renA_twice]
      exact (hra _).2 ⟨y, h3, rfl⟩
    · intro h
      obtain ⟨y, h3, h4⟩ := (hra z).1 h
      exact ⟨z, h, by rw [← h4, renA_twice]⟩
  rw [at_may r (by omega), bind_some]
  refine n6 (canon_iff.2 cra) ?_
  have hul := un_len a b
  have cu := norm_canon (a ++ b)
  have hmu : ∀ z, z ∈ norm (a ++ b) ↔ z ∈ a ∨ z ∈ b := fun z => mem_un ca cb
  have tail : (P.bind (atoms_Union K (a, b)) fun r_8 => P.bind (atoms_Rename K (r_8, s)) fun r_9 => P.bind (atoms_Union K (r, t)) fun r_10 => P.bind (ref06_Same K (r_9, r_10)) fun r_11 => P.cond r_11 (P.bind (atoms_Has K (a, (4 : Int), s)) fun r_12 => P.cond r_12 (some true) (P.bind (ref06_Same K (r, a)) fun r => some r)) (some false)) = some true := by
    rw [at_union a b (by omega), bind_some]
    generalize norm (a ++ b) = u at *
    have hlu := ren_len u s
    rw [at_rename u s (by omega), bind_some, at_union r t (by omega), bind_some, ref_same _ _ (by omega), bind_some]
    refine y6 (canon_same (norm_canon _) (norm_canon _) fun z => ?_) ?_
    · rw [mem_ren cu, mem_un cra crb, hra, hrb]
      constructor
      · rintro ⟨x, h1, h2⟩
        exact ((hmu x).1 h1).elim (fun h => .inl ⟨x, h, h2⟩) fun h => .inr ⟨x, h, h2⟩
      · rintro (⟨x, h1, h2⟩ | ⟨x, h1, h2⟩)
        · exact ⟨x, (hmu x).2 (.inl h1), h2⟩
        · exact ⟨x, (hmu x).2 (.inr h1), h2⟩
    rw [at_has _ _ (by omega), bind_some]
    by_cases q : ((4 : Int), s) ∈ a
    · rw [decide_eq_true q, cond_true]
    · rw [decide_eq_false q, cond_false, ref_same _ _ (by omega), bind_some]
      rw [decide_eq_true (canon_same cra ca fun z => ?_)]
      rw [hra]
      have keep : ∀ x, x ∈ a → renA s x = x := fun x hx => by unfold renA; rw [if_neg (fun e : x = (4, s) => q (by rw [← e]; exact hx))]
      exact ⟨fun ⟨x, h1, h2⟩ => by rw [← h2, keep x h1]; exact h1, fun h => ⟨z, h, keep z h⟩⟩
  rw [at_within a b (by omega) (by omega), bind_some]
  by_cases q : Within a b
  · rw [decide_eq_true q, cond_true, at_within r t (by omega) (by omega), bind_some]
    refine n6 (fun z hz => ?_) tail
    obtain ⟨x, h1, h2⟩ := (hra z).1 hz
    exact (hrb z).2 ⟨x, q x h1, h2⟩
  · rw [decide_eq_false q, cond_false]; exact tail
theorem in6 (x : List At × List At × At) : law06_AtomsIn K x = some true := by
  obtain ⟨a, b, z⟩ := x
  unfold law06_AtomsIn
  try dsimp only
  rw [fixed6, bind_some]
  rw [show P.not true = false from rfl, cond_false]
  refine g6l fun la => g6l fun lb => ?_
  rw [at_may a (by omega), bind_some]
  refine g6 fun ma => ?_
  rw [at_may b (by omega), bind_some]
  refine g6 fun mb => ?_
  rw [at_may [z] (by simp), bind_some]
  refine g6 fun mz => ?_
  have ca := canon_iff.1 (of_decide_eq_true ma)
  have cb := canon_iff.1 (of_decide_eq_true mb)
  have hul := un_len a b
  have cu := norm_canon (a ++ b)
  have hmu : ∀ z, z ∈ norm (a ++ b) ↔ z ∈ a ∨ z ∈ b := fun z => mem_un ca cb
  rw [at_union a b (by omega), bind_some]
  generalize norm (a ++ b) = u at *
  have tail : (P.bind (atoms_Within K ([z], a)) fun r_3 => P.bind (atoms_Has K (a, z)) fun r_4 => P.cond (P.beq r_3 r_4) (P.bind (atoms_Within K (u, b)) fun r => P.bind (atoms_Within K (a, b)) fun r_5 => some (P.beq r r_5)) (some false)) = some true := by
    rw [at_within [z] a (by simp) (by omega), bind_some, at_has a z (by omega), bind_some]
    refine b6 ⟨fun h => h z (by simp), fun h y hy => by rw [List.mem_singleton.1 hy]; exact h⟩ ?_
    rw [at_within u b (by omega) (by omega), bind_some, at_within a b (by omega) (by omega), bind_some]
    exact e6 ⟨fun h y hy => h y ((hmu y).2 (.inl hy)), fun h y hy => ((hmu y).1 hy).elim (h y) id⟩
  rw [at_has u z (by omega), bind_some, at_has a z (by omega), bind_some]
  by_cases q : z ∈ a
  · rw [decide_eq_true q, cond_true, decide_eq_true ((hmu z).2 (.inl q)), show P.beq true true = true from rfl, cond_true]
    rw [at_has a z (by omega), decide_eq_true q] at tail
    exact tail
  · rw [decide_eq_false q, cond_false, at_has b z (by omega), bind_some]
    refine b6 ⟨fun h => ((hmu z).1 h).elim (fun h => absurd h q) id, fun h => (hmu z).2 (.inr h)⟩ ?_
    rw [at_has a z (by omega), decide_eq_false q] at tail
    exact tail
def small200 (l : List At) : P.ilt (200 : Int) (P.len l) = P.not (decide (l.length ≤ 200)) := by
  rw [Bool.eq_iff_iff, ilt_iff, not_iff, decide_eq_true_eq, len_eq]; omega
theorem tells6 (x : List At × List At × At) (hx : InA x.1) : law06_AtomsTells K x = some true := by
  obtain ⟨a, b, z⟩ := x
  have hx : InA a := hx
  unfold law06_AtomsTells
  try dsimp only
  rw [small200, small200]
  refine g6 fun la => g6 fun lb => ?_
  have la := of_decide_eq_true la
  have lb := of_decide_eq_true lb
  rw [fixed6, bind_some, cond_true, at_norm' a (by omega), bind_some, ref_norm a (by omega), bind_some]
  have hn := norm_length a
  have hu := un_len a b
  have hr := ren_len a z.2
  rw [ref_same _ _ (by omega), bind_some]
  refine y6 rfl ?_
  rw [at_may a (by omega), bind_some, ref_may a (by omega), bind_some]
  refine b6 Iff.rfl ?_
  rw [at_union a b (by omega), bind_some, ref_union a b (by omega), bind_some, ref_same _ _ (by omega), bind_some]
  refine y6 rfl ?_
  rw [at_within a b (by omega) (by omega), bind_some, ref_within a b (by omega) (by omega), bind_some]
  refine b6 Iff.rfl ?_
  rw [at_has a z (by omega), bind_some, ref_has a z (by omega), bind_some]
  refine b6 Iff.rfl ?_
  rw [at_rename a z.2 (by omega), bind_some, ref_rename a z.2 (by omega), bind_some, ref_same _ _ (by omega), bind_some]
  refine y6 rfl ?_
  rw [at_text a hx (by omega), bind_some, ref_text a hx (by omega), bind_some]
  rw [seq_eq, decide_eq_true rfl]
/-! ### unlike lists have unlike texts -/
theorem dec_inj : ∀ {u v : Nat}, Lib.decDigits u = Lib.decDigits v → u = v := by
  intro u
  induction u using Nat.strongRecOn with
  | _ u ih =>
    intro v h
    have dig : ∀ {a b : Nat}, a < 10 → b < 10 → UInt8.ofNat (48 + a) = UInt8.ofNat (48 + b) → a = b := fun {a b} ha hb e => by
      have := congrArg UInt8.toNat e
      simp only [UInt8.toNat_ofNat'] at this
      omega
    have one : ∀ w : Nat, 1 ≤ (Lib.decDigits w).length := fun w => by rw [Lib.decDigits_length]; exact Lib.nDigits_pos w
    by_cases hu : u < 10
    · by_cases hv : v < 10
      · rw [Lib.decDigits_one hu, Lib.decDigits_one hv] at h
        exact dig hu hv (by simpa using h)
      · rw [Lib.decDigits_one hu, Lib.decDigits, dif_neg hv] at h
        have h1 := congrArg List.length h
        have := one (v / 10)
        simp only [List.length_append, List.length_cons, List.length_nil] at h1
        omega
    · by_cases hv : v < 10
      · rw [Lib.decDigits_one hv, Lib.decDigits, dif_neg hu] at h
        have h1 := congrArg List.length h
        have := one (u / 10)
        simp only [List.length_append, List.length_cons, List.length_nil] at h1
        omega
      · rw [Lib.decDigits, dif_neg hu] at h
        rw [Lib.decDigits.eq_1 v, dif_neg hv] at h
        obtain ⟨h1, h2⟩ := List.append_inj' h rfl
        have h3 := ih (u / 10) (by omega) h1
        have h4 := dig (Nat.mod_lt u (by decide)) (Nat.mod_lt v (by decide)) (by simpa using h2)
        omega
theorem dec_ge (u : Nat) : ∀ c, c ∈ Lib.decDigits u → c ≠ 32 := by
  intro c hc
  rw [Lib.decDigits_eq, List.mem_map] at hc
  obtain ⟨t, _, rfl⟩ := hc
  unfold Lib.dg
  intro e
  have := congrArg UInt8.toNat e
  simp only [UInt8.toNat_ofNat'] at this
  have h2 : (32 : UInt8).toNat = 32 := rfl
  omega
theorem nameA_blank {a : At} (h : RightA a) : (∀ c, c ∈ nameA a → c ≠ 32) ∧ nameA a ≠ [] := by
  obtain ⟨k, n⟩ := a
  have hk : (k = 0 ∧ n = 0) ∨ (k = 1 ∧ n = 0) ∨ (k = 2 ∧ n = 0) ∨ (k = 6 ∧ n = 0) ∨ ((k = 3 ∨ k = 4 ∨ k = 5) ∧ 0 ≤ n) := by unfold RightA at h; simp only at h; omega
  rcases hk with ⟨rfl, rfl⟩ | ⟨rfl, rfl⟩ | ⟨rfl, rfl⟩ | ⟨rfl, rfl⟩ | ⟨hk, hn⟩
  · exact ⟨by decide, by decide⟩
  · exact ⟨by decide, by decide⟩
  · exact ⟨by decide, by decide⟩
  · exact ⟨by decide, by decide⟩
  · obtain ⟨u, rfl⟩ : ∃ u : Nat, n = (u : Int) := ⟨n.toNat, by omega⟩
    have hd := dec_ge u
    rcases hk with rfl | rfl | rfl <;>
    · simp only [nameA, Lib.itoa_nonneg]
      refine ⟨fun c hc => ?_, by simp⟩
      simp at hc
      rcases hc with rfl | rfl | rfl | q
      · decide
      · decide
      · decide
      · exact hd c q
theorem nameA_inj {a b : At} (ha : RightA a) (hb : RightA b) (h : nameA a = nameA b) : a = b := by
  obtain ⟨k, n⟩ := a
  obtain ⟨l, m⟩ := b
  have hk : (k = 0 ∧ n = 0) ∨ (k = 1 ∧ n = 0) ∨ (k = 2 ∧ n = 0) ∨ (k = 6 ∧ n = 0) ∨ (k = 3 ∧ 0 ≤ n) ∨ (k = 4 ∧ 0 ≤ n) ∨ (k = 5 ∧ 0 ≤ n) := by unfold RightA at ha; simp only at ha; omega
  have hl : (l = 0 ∧ m = 0) ∨ (l = 1 ∧ m = 0) ∨ (l = 2 ∧ m = 0) ∨ (l = 6 ∧ m = 0) ∨ (l = 3 ∧ 0 ≤ m) ∨ (l = 4 ∧ 0 ≤ m) ∨ (l = 5 ∧ 0 ≤ m) := by unfold RightA at hb; simp only at hb; omega
  have fin : ∀ {x y : Int}, 0 ≤ x → 0 ≤ y → Lib.itoa x = Lib.itoa y → x = y := fun {x y} hx hy e => by
    obtain ⟨u, rfl⟩ : ∃ u : Nat, x = (u : Int) := ⟨x.toNat, by omega⟩
    obtain ⟨v, rfl⟩ : ∃ v : Nat, y = (v : Int) := ⟨y.toNat, by omega⟩
    rw [Lib.itoa_nonneg, Lib.itoa_nonneg] at e
    rw [dec_inj e]
  rcases hk with ⟨rfl, hn⟩ | ⟨rfl, hn⟩ | ⟨rfl, hn⟩ | ⟨rfl, hn⟩ | ⟨rfl, hn⟩ | ⟨rfl, hn⟩ | ⟨rfl, hn⟩ <;>
  rcases hl with ⟨rfl, hm⟩ | ⟨rfl, hm⟩ | ⟨rfl, hm⟩ | ⟨rfl, hm⟩ | ⟨rfl, hm⟩ | ⟨rfl, hm⟩ | ⟨rfl, hm⟩ <;>
  first
    | (subst hn; subst hm; rfl)
    | (exfalso; simp [nameA] at h; done)
    | (rw [fin hn hm (by simpa [nameA] using h)])
theorem split_blank {x y r s : List UInt8} (hx : ∀ c, c ∈ x → c ≠ 32) (hy : ∀ c, c ∈ y → c ≠ 32) (hr : r = [] ∨ ∃ t, r = 32 :: t) (hs : s = [] ∨ ∃ t, s = 32 :: t) (h : x ++ r = y ++ s) : x = y ∧ r = s := by
  induction x generalizing y with
  | nil =>
    cases y with
    | nil => exact ⟨rfl, h⟩
    | cons c y =>
      rcases hr with rfl | ⟨t, rfl⟩
      · simp at h
      · simp at h; exact absurd h.1.symm (hy c (by simp))
  | cons c x ih =>
    cases y with
    | nil =>
      rcases hs with rfl | ⟨t, rfl⟩
      · simp at h
      · simp at h; exact absurd h.1 (hx c (by simp))
    | cons d y =>
      simp only [List.cons_append, List.cons.injEq] at h
      obtain ⟨h1, h2⟩ := ih (fun c hc => hx c (by simp [hc])) (y := y) (fun c hc => hy c (by simp [hc])) h.2
      exact ⟨by rw [h.1, h1], h2⟩
theorem tail_form (r : List (List UInt8)) : Lib.joinTail [32] r = [] ∨ ∃ t, Lib.joinTail [32] r = 32 :: t := by
  cases r with
  | nil => exact .inl rfl
  | cons x r => exact .inr ⟨_, by simp [Lib.joinTail]; rfl⟩
theorem tail_inj : ∀ {a b : List At}, (∀ z, z ∈ a → RightA z) → (∀ z, z ∈ b → RightA z) → Lib.joinTail [32] (a.map nameA) = Lib.joinTail [32] (b.map nameA) → a = b := by
  intro a
  induction a with
  | nil =>
    intro b _ _ h
    cases b with
    | nil => rfl
    | cons y b => simp [Lib.joinTail] at h
  | cons x a ih =>
    intro b ha hb h
    cases b with
    | nil => simp [Lib.joinTail] at h
    | cons y b =>
      have h : 32 :: (nameA x ++ Lib.joinTail [32] (a.map nameA)) = 32 :: (nameA y ++ Lib.joinTail [32] (b.map nameA)) := by simpa [Lib.joinTail] using h
      have hx := ha x (by simp)
      have hy := hb y (by simp)
      obtain ⟨h1, h2⟩ := split_blank (nameA_blank hx).1 (nameA_blank hy).1 (tail_form _) (tail_form _) (List.cons.inj h).2
      rw [nameA_inj hx hy h1, ih (fun z hz => ha z (by simp [hz])) (fun z hz => hb z (by simp [hz])) h2]
theorem textA_inj {a b : List At} (ha : ∀ z, z ∈ a → RightA z) (hb : ∀ z, z ∈ b → RightA z) (h : textA a = textA b) : a = b := by
  unfold textA at h
  cases a with
  | nil =>
    cases b with
    | nil => rfl
    | cons y b =>
      rw [List.map_cons, Lib.join_cons, List.map_nil, Lib.join_nil] at h
      have := (nameA_blank (hb y (by simp))).2
      have h1 := (List.append_eq_nil_iff.1 h.symm).1
      exact absurd h1 this
  | cons x a =>
    cases b with
    | nil =>
      rw [List.map_cons, Lib.join_cons, List.map_nil, Lib.join_nil] at h
      have := (nameA_blank (ha x (by simp))).2
      exact absurd (List.append_eq_nil_iff.1 h).1 this
    | cons y b =>
      rw [List.map_cons, Lib.join_cons, List.map_cons, Lib.join_cons] at h
      have hx := ha x (by simp)
      have hy := hb y (by simp)
      obtain ⟨h1, h2⟩ := split_blank (nameA_blank hx).1 (nameA_blank hy).1 (tail_form _) (tail_form _) h
      rw [nameA_inj hx hy h1, tail_inj (fun z hz => ha z (by simp [hz])) (fun z hz => hb z (by simp [hz])) h2]
theorem texts6 (x : List At × List At) (hx : InA x.1) (hy : InA x.2) : law06_AtomsTexts K x = some true := by
  obtain ⟨a, b⟩ := x
  have hx : InA a := hx
  have hy : InA b := hy
  unfold law06_AtomsTexts
  try dsimp only
  rw [fixed6, bind_some]
  rw [show P.not true = false from rfl, cond_false]
  refine g6l fun la => g6l fun lb => ?_
  rw [at_may a (by omega), bind_some]
  refine g6 fun ma => ?_
  rw [at_may b (by omega), bind_some]
  refine g6 fun mb => ?_
  have ca := canon_iff.1 (of_decide_eq_true ma)
  have cb := canon_iff.1 (of_decide_eq_true mb)
  rw [at_text a hx (by omega), bind_some, at_text b hy (by omega), bind_some, ref_same a b (by omega), bind_some, seq_eq]
  exact e6 ⟨fun h => textA_inj ca.2 cb.2 (B_inj.1 h), fun h => by rw [h]⟩
end Go.PL
end
section
/- Law 06: what the rows' data gives. -/
open Go Go.PG Go.PL
set_option linter.all false
namespace Go.PL
theorem inI_of {n : Int} (h : (Lit.int .i64 n).wf = true) : InI n := by
  have h0 : IntKind.i64.min = -9223372036854775808 := by decide
  have h1 : IntKind.i64.max = 9223372036854775807 := by decide
  simp only [Lit.wf, Bool.and_eq_true, decide_eq_true_eq, h0, h1] at h
  unfold InI
  omega
theorem inA_of {l : List At} (h : Wf (.slice (.st (.pair (.int .i64) (.int .i64)))) l) : InA l := fun a ha => by
  obtain ⟨_, h⟩ := h
  have := h a ha
  exact inI_of this.2
end Go.PL
end

/- Lemmas for the claim. -/
import Derived.Test.YtijheoafbhjcbaaProg
import Derived.KernelRfl
import Derived.Test.YtijheoafbhjcbaaG3
import Derived.Lib.Strings
import Derived.Lib.Slices
import Derived.Lib.Walk
import Derived.Lib.Bytealg
import Derived.Test.YtijheoafbhjcbaaG1
import Derived.Laws.Strings
set_option linter.all false
section
open Go Go.PG Go.Proofs
set_option linter.all false
set_option maxRecDepth 1000000
set_option maxHeartbeats 4000000
abbrev T_api_Atom : Ty := .st (.pair (.int .i64) (.int .i64))
abbrev T_api_Bind : Ty := .st (.pair .str (.slice T_api_Atom))
abbrev T_api_Field : Ty := .st (.pair .str (.pair .bool (.slice T_api_Atom)))
abbrev T_api_Shape : Ty := .st (.pair (.slice T_api_Field) (.slice T_api_Atom))
abbrev T_api_Loc : Ty := .st (.pair T_api_Atom T_api_Shape)
abbrev T_api_State : Ty := .st (.pair .bool (.pair (.slice T_api_Bind) (.slice T_api_Loc)))
abbrev T_api_Found : Ty := .st (.pair (.slice T_api_Atom) (.pair .bool (.pair .bool .bool)))
abbrev T_proteanlaw10_Ask : Ty := .st (.pair (.slice T_api_Atom) .str)
noncomputable def T : List (Nat × TyRow) := [(3, ⟨(.int .i64), 0, false, false⟩), (4, ⟨.bool, 0, false, false⟩), (9, ⟨.str, 0, false, false⟩), (20, ⟨.opq, 0, false, false⟩), (22, ⟨(.slice T_api_Bind), 40, false, false⟩), (23, ⟨(.slice T_api_Loc), 64, false, false⟩), (25, ⟨T_api_State, 0, false, false⟩), (26, ⟨(.slice T_api_Atom), 16, false, false⟩), (33, ⟨T_api_Found, 0, false, false⟩), (37, ⟨T_proteanlaw10_Ask, 0, false, false⟩), (44, ⟨T_api_Atom, 0, true, false⟩), (45, ⟨(.slice T_api_Field), 48, false, false⟩), (47, ⟨T_api_Shape, 0, false, false⟩), (51, ⟨T_api_Field, 0, false, false⟩), (58, ⟨T_api_Bind, 0, false, false⟩), (60, ⟨T_api_Loc, 0, false, false⟩), (64, ⟨.opq, 0, false, false⟩), (65, ⟨.opq, 0, false, false⟩), (72, ⟨(.slice .str), 16, false, false⟩), (77, ⟨.opq, 0, false, false⟩), (78, ⟨(.slice (.slice T_api_Atom)), 24, false, false⟩), (81, ⟨(.int .u64), 0, false, false⟩), (85, ⟨.opq, 0, false, false⟩), (93, ⟨.opq, 0, false, false⟩), (105, ⟨(.slice (.int .i64)), 8, false, false⟩)]
def sortF (l : List (Int × Int)) : Option (List (Int × Int)) := SortX.sortF l
theorem mixedOk : Try.prog.follows .mixedOrders = true := by kernel_rfl
theorem tabOk : tysB Try.prog T = true := by kernel_rfl
abbrev GG : World → Prop := fun _ => True
theorem f47_at : Try.prog.funcs[47]? = some Try.f47 := by kernel_rfl
theorem f47_ok : (Try.f47.name != "runtime.NumGoroutine" && Try.f47.body.isSome) = true := by kernel_rfl
theorem f57_at : Try.prog.funcs[57]? = some Try.f57 := by kernel_rfl
theorem f57_ok : (Try.f57.name != "runtime.NumGoroutine" && Try.f57.body.isSome) = true := by kernel_rfl
theorem f45_at : Try.prog.funcs[45]? = some Try.f45 := by kernel_rfl
theorem f45_ok : (Try.f45.name != "runtime.NumGoroutine" && Try.f45.body.isSome) = true := by kernel_rfl
theorem f63_at : Try.prog.funcs[63]? = some Try.f63 := by kernel_rfl
theorem f63_ok : (Try.f63.name != "runtime.NumGoroutine" && Try.f63.body.isSome) = true := by kernel_rfl
theorem f77_at : Try.prog.funcs[77]? = some Try.f77 := by kernel_rfl
theorem f77_ok : (Try.f77.name != "runtime.NumGoroutine" && Try.f77.body.isSome) = true := by kernel_rfl
theorem f64_at : Try.prog.funcs[64]? = some Try.f64 := by kernel_rfl
theorem f64_ok : (Try.f64.name != "runtime.NumGoroutine" && Try.f64.body.isSome) = true := by kernel_rfl
theorem f51_at : Try.prog.funcs[51]? = some Try.f51 := by kernel_rfl
theorem f51_ok : (Try.f51.name != "runtime.NumGoroutine" && Try.f51.body.isSome) = true := by kernel_rfl
theorem f49_at : Try.prog.funcs[49]? = some Try.f49 := by kernel_rfl
theorem f49_ok : (Try.f49.name != "runtime.NumGoroutine" && Try.f49.body.isSome) = true := by kernel_rfl
theorem f48_at : Try.prog.funcs[48]? = some Try.f48 := by kernel_rfl
theorem f48_ok : (Try.f48.name != "runtime.NumGoroutine" && Try.f48.body.isSome) = true := by kernel_rfl
theorem f34_at : Try.prog.funcs[34]? = some Try.f34 := by kernel_rfl
theorem f34_ok : (Try.f34.name != "runtime.NumGoroutine" && Try.f34.body.isSome) = true := by kernel_rfl
theorem f44_at : Try.prog.funcs[44]? = some Try.f44 := by kernel_rfl
theorem f44_ok : (Try.f44.name != "runtime.NumGoroutine" && Try.f44.body.isSome) = true := by kernel_rfl
theorem f31_at : Try.prog.funcs[31]? = some Try.f31 := by kernel_rfl
theorem f31_ok : (Try.f31.name != "runtime.NumGoroutine" && Try.f31.body.isSome) = true := by kernel_rfl
theorem f35_at : Try.prog.funcs[35]? = some Try.f35 := by kernel_rfl
theorem f35_ok : (Try.f35.name != "runtime.NumGoroutine" && Try.f35.body.isSome) = true := by kernel_rfl
theorem f8_at : Try.prog.funcs[8]? = some Try.f8 := by kernel_rfl
theorem f8_ok : (Try.f8.name != "runtime.NumGoroutine" && Try.f8.body.isSome) = true := by kernel_rfl
theorem f10_at : Try.prog.funcs[10]? = some Try.f10 := by kernel_rfl
theorem f10_ok : (Try.f10.name != "runtime.NumGoroutine" && Try.f10.body.isSome) = true := by kernel_rfl
theorem f11_at : Try.prog.funcs[11]? = some Try.f11 := by kernel_rfl
theorem f11_ok : (Try.f11.name != "runtime.NumGoroutine" && Try.f11.body.isSome) = true := by kernel_rfl
theorem f14_at : Try.prog.funcs[14]? = some Try.f14 := by kernel_rfl
theorem f14_ok : (Try.f14.name != "runtime.NumGoroutine" && Try.f14.body.isSome) = true := by kernel_rfl
theorem f25_at : Try.prog.funcs[25]? = some Try.f25 := by kernel_rfl
theorem f25_ok : (Try.f25.name != "runtime.NumGoroutine" && Try.f25.body.isSome) = true := by kernel_rfl
theorem f26_at : Try.prog.funcs[26]? = some Try.f26 := by kernel_rfl
theorem f26_ok : (Try.f26.name != "runtime.NumGoroutine" && Try.f26.body.isSome) = true := by kernel_rfl
theorem f40_at : Try.prog.funcs[40]? = some Try.f40 := by kernel_rfl
theorem f40_ok : (Try.f40.name != "runtime.NumGoroutine" && Try.f40.body.isSome) = true := by kernel_rfl
theorem f27_at : Try.prog.funcs[27]? = some Try.f27 := by kernel_rfl
theorem f27_ok : (Try.f27.name != "runtime.NumGoroutine" && Try.f27.body.isSome) = true := by kernel_rfl
theorem f55_at : Try.prog.funcs[55]? = some Try.f55 := by kernel_rfl
theorem f55_ok : (Try.f55.name != "runtime.NumGoroutine" && Try.f55.body.isSome) = true := by kernel_rfl
theorem f43_at : Try.prog.funcs[43]? = some Try.f43 := by kernel_rfl
theorem f43_ok : (Try.f43.name != "runtime.NumGoroutine" && Try.f43.body.isSome) = true := by kernel_rfl
theorem f28_at : Try.prog.funcs[28]? = some Try.f28 := by kernel_rfl
theorem f28_ok : (Try.f28.name != "runtime.NumGoroutine" && Try.f28.body.isSome) = true := by kernel_rfl
theorem f9_at : Try.prog.funcs[9]? = some Try.f9 := by kernel_rfl
theorem f9_ok : (Try.f9.name != "runtime.NumGoroutine" && Try.f9.body.isSome) = true := by kernel_rfl
theorem f38_at : Try.prog.funcs[38]? = some Try.f38 := by kernel_rfl
theorem f38_ok : (Try.f38.name != "runtime.NumGoroutine" && Try.f38.body.isSome) = true := by kernel_rfl
theorem f42_at : Try.prog.funcs[42]? = some Try.f42 := by kernel_rfl
theorem f42_ok : (Try.f42.name != "runtime.NumGoroutine" && Try.f42.body.isSome) = true := by kernel_rfl
theorem f54_at : Try.prog.funcs[54]? = some Try.f54 := by kernel_rfl
theorem f54_ok : (Try.f54.name != "runtime.NumGoroutine" && Try.f54.body.isSome) = true := by kernel_rfl
theorem f39_at : Try.prog.funcs[39]? = some Try.f39 := by kernel_rfl
theorem f39_ok : (Try.f39.name != "runtime.NumGoroutine" && Try.f39.body.isSome) = true := by kernel_rfl
theorem f24_at : Try.prog.funcs[24]? = some Try.f24 := by kernel_rfl
theorem f24_ok : (Try.f24.name != "runtime.NumGoroutine" && Try.f24.body.isSome) = true := by kernel_rfl
theorem f19_at : Try.prog.funcs[19]? = some Try.f19 := by kernel_rfl
theorem f19_ok : (Try.f19.name != "runtime.NumGoroutine" && Try.f19.body.isSome) = true := by kernel_rfl
theorem f22_at : Try.prog.funcs[22]? = some Try.f22 := by kernel_rfl
theorem f22_ok : (Try.f22.name != "runtime.NumGoroutine" && Try.f22.body.isSome) = true := by kernel_rfl
theorem f23_at : Try.prog.funcs[23]? = some Try.f23 := by kernel_rfl
theorem f23_ok : (Try.f23.name != "runtime.NumGoroutine" && Try.f23.body.isSome) = true := by kernel_rfl
theorem f32_at : Try.prog.funcs[32]? = some Try.f32 := by kernel_rfl
theorem f32_ok : (Try.f32.name != "runtime.NumGoroutine" && Try.f32.body.isSome) = true := by kernel_rfl
theorem f12_at : Try.prog.funcs[12]? = some Try.f12 := by kernel_rfl
theorem f12_ok : (Try.f12.name != "runtime.NumGoroutine" && Try.f12.body.isSome) = true := by kernel_rfl
theorem f13_at : Try.prog.funcs[13]? = some Try.f13 := by kernel_rfl
theorem f13_ok : (Try.f13.name != "runtime.NumGoroutine" && Try.f13.body.isSome) = true := by kernel_rfl
theorem f36_at : Try.prog.funcs[36]? = some Try.f36 := by kernel_rfl
theorem f36_ok : (Try.f36.name != "runtime.NumGoroutine" && Try.f36.body.isSome) = true := by kernel_rfl
theorem f15_at : Try.prog.funcs[15]? = some Try.f15 := by kernel_rfl
theorem f15_ok : (Try.f15.name != "runtime.NumGoroutine" && Try.f15.body.isSome) = true := by kernel_rfl
theorem f3_at : Try.prog.funcs[3]? = some Try.f3 := by kernel_rfl
theorem f3_ok : (Try.f3.name != "runtime.NumGoroutine" && Try.f3.body.isSome) = true := by kernel_rfl
theorem f16_at : Try.prog.funcs[16]? = some Try.f16 := by kernel_rfl
theorem f16_ok : (Try.f16.name != "runtime.NumGoroutine" && Try.f16.body.isSome) = true := by kernel_rfl
theorem f18_at : Try.prog.funcs[18]? = some Try.f18 := by kernel_rfl
theorem f18_ok : (Try.f18.name != "runtime.NumGoroutine" && Try.f18.body.isSome) = true := by kernel_rfl
theorem f20_at : Try.prog.funcs[20]? = some Try.f20 := by kernel_rfl
theorem f20_ok : (Try.f20.name != "runtime.NumGoroutine" && Try.f20.body.isSome) = true := by kernel_rfl
theorem f41_at : Try.prog.funcs[41]? = some Try.f41 := by kernel_rfl
theorem f41_ok : (Try.f41.name != "runtime.NumGoroutine" && Try.f41.body.isSome) = true := by kernel_rfl
theorem f21_at : Try.prog.funcs[21]? = some Try.f21 := by kernel_rfl
theorem f21_ok : (Try.f21.name != "runtime.NumGoroutine" && Try.f21.body.isSome) = true := by kernel_rfl
theorem f37_at : Try.prog.funcs[37]? = some Try.f37 := by kernel_rfl
theorem f37_ok : (Try.f37.name != "runtime.NumGoroutine" && Try.f37.body.isSome) = true := by kernel_rfl
theorem f17_at : Try.prog.funcs[17]? = some Try.f17 := by kernel_rfl
theorem f17_ok : (Try.f17.name != "runtime.NumGoroutine" && Try.f17.body.isSome) = true := by kernel_rfl
theorem f4_at : Try.prog.funcs[4]? = some Try.f4 := by kernel_rfl
theorem f4_ok : (Try.f4.name != "runtime.NumGoroutine" && Try.f4.body.isSome) = true := by kernel_rfl
theorem f5_at : Try.prog.funcs[5]? = some Try.f5 := by kernel_rfl
theorem f5_ok : (Try.f5.name != "runtime.NumGoroutine" && Try.f5.body.isSome) = true := by kernel_rfl
theorem f6_at : Try.prog.funcs[6]? = some Try.f6 := by kernel_rfl
theorem f6_ok : (Try.f6.name != "runtime.NumGoroutine" && Try.f6.body.isSome) = true := by kernel_rfl
theorem f7_at : Try.prog.funcs[7]? = some Try.f7 := by kernel_rfl
theorem f7_ok : (Try.f7.name != "runtime.NumGoroutine" && Try.f7.body.isSome) = true := by kernel_rfl
theorem f58_at : Try.prog.funcs[58]? = some Try.f58 := by kernel_rfl
theorem f58_ok : (Try.f58.name != "runtime.NumGoroutine" && Try.f58.body.isSome) = true := by kernel_rfl
theorem f59_at : Try.prog.funcs[59]? = some Try.f59 := by kernel_rfl
theorem f59_ok : (Try.f59.name != "runtime.NumGoroutine" && Try.f59.body.isSome) = true := by kernel_rfl
theorem f53_at : Try.prog.funcs[53]? = some Try.f53 := by kernel_rfl
theorem f53_ok : (Try.f53.name != "runtime.NumGoroutine" && Try.f53.body.isSome) = true := by kernel_rfl
theorem f46_at : Try.prog.funcs[46]? = some Try.f46 := by kernel_rfl
theorem f46_ok : (Try.f46.name != "runtime.NumGoroutine" && Try.f46.body.isSome) = true := by kernel_rfl
theorem f60_at : Try.prog.funcs[60]? = some Try.f60 := by kernel_rfl
theorem f60_ok : (Try.f60.name != "runtime.NumGoroutine" && Try.f60.body.isSome) = true := by kernel_rfl
theorem f52_at : Try.prog.funcs[52]? = some Try.f52 := by kernel_rfl
theorem f52_ok : (Try.f52.name != "runtime.NumGoroutine" && Try.f52.body.isSome) = true := by kernel_rfl
theorem f65_at : Try.prog.funcs[65]? = some Try.f65 := by kernel_rfl
theorem f65_ok : (Try.f65.name != "runtime.NumGoroutine" && Try.f65.body.isSome) = true := by kernel_rfl
theorem f66_at : Try.prog.funcs[66]? = some Try.f66 := by kernel_rfl
theorem f66_ok : (Try.f66.name != "runtime.NumGoroutine" && Try.f66.body.isSome) = true := by kernel_rfl
theorem f56_at : Try.prog.funcs[56]? = some Try.f56 := by kernel_rfl
theorem f56_ok : (Try.f56.name != "runtime.NumGoroutine" && Try.f56.body.isSome) = true := by kernel_rfl
noncomputable def codes : List (Nat × Func × List (Nat × Hint)) := [(45, Try.f45, []), (58, Try.f58, [(2, ⟨[.var 8 (.d (.int .i64))], [], (some (0, []))⟩)]), (59, Try.f59, []), (47, Try.f47, []), (53, Try.f53, []), (46, Try.f46, [(5, ⟨[.var 5 (.d (.int .i64)), .var 6 (.d (.int .i64)), .cel 0 [] (.st (.pair (.int .i64) (.int .i64)))], [], (some (0, [.var 5 (.d (.int .i64)), .cel 0 [] (.st (.pair (.int .i64) (.int .i64)))]))⟩)]), (60, Try.f60, [(2, ⟨[.var 8 (.d (.int .i64))], [], (some (0, []))⟩)]), (52, Try.f52, [(4, ⟨[.var 3 (.d (.int .i64)), .cel 0 [] (.st (.pair (.int .i64) (.int .i64)))], [], (some (0, [.cel 0 [] (.st (.pair (.int .i64) (.int .i64)))]))⟩), (9, ⟨[.var 3 (.d (.int .i64)), .var 5 (.d (.int .i64)), .cel 0 [] (.st (.pair (.int .i64) (.int .i64)))], [], (some (2, [.var 3 (.d (.int .i64)), .cel 0 [] (.st (.pair (.int .i64) (.int .i64)))]))⟩)]), (57, Try.f57, [(3, ⟨[.var 13 (.d (.int .i64)), .box 3 [] (.s (.p (.o (.st (.pair .str (.pair .bool (.slice (.st (.pair (.int .i64) (.int .i64)))))))) (.d (.slice (.st (.pair (.int .i64) (.int .i64)))))))], [], (some (0, [.box 3 [] (.s (.p (.o (.st (.pair .str (.pair .bool (.slice (.st (.pair (.int .i64) (.int .i64)))))))) (.d (.slice (.st (.pair (.int .i64) (.int .i64)))))))]))⟩)]), (65, Try.f65, [(2, ⟨[.var 8 (.d (.int .i64))], [], (some (0, []))⟩)]), (66, Try.f66, []), (56, Try.f56, [])]
theorem codesOk : CodesOk Try.prog codes := .cons f45_at f45_ok <| .cons f58_at f58_ok <| .cons f59_at f59_ok <| .cons f47_at f47_ok <| .cons f53_at f53_ok <| .cons f46_at f46_ok <| .cons f60_at f60_ok <| .cons f52_at f52_ok <| .cons f57_at f57_ok <| .cons f65_at f65_ok <| .cons f66_at f66_ok <| .cons f56_at f56_ok <| .nil
theorem sort_ok : InplOk Try.prog GG 50 ⟨T_api_Atom, 51, sortF⟩ := SortX.sort_ok GG
theorem f50_at : Try.prog.funcs[50]? = some Try.f50 := by kernel_rfl
theorem f50_ok : (Try.f50.name != "runtime.NumGoroutine" && Try.f50.body.isSome) = true := by kernel_rfl
theorem inplOk : InplsOk Try.prog GG [(50, ⟨T_api_Atom, 51, sortF⟩)] := .cons sort_ok f50_at f50_ok .nil
theorem mapsOk : mapsB Try.prog [(74, T_api_Atom, .bool)] = true := by kernel_rfl
theorem f29_at : Try.prog.funcs[29]? = some Try.f29 := by kernel_rfl
theorem f29_ok : (Try.f29.name != "runtime.NumGoroutine" && Try.f29.body.isSome) = true := by kernel_rfl
theorem f30_at : Try.prog.funcs[30]? = some Try.f30 := by kernel_rfl
theorem f30_ok : (Try.f30.name != "runtime.NumGoroutine" && Try.f30.body.isSome) = true := by kernel_rfl
theorem f33_at : Try.prog.funcs[33]? = some Try.f33 := by kernel_rfl
theorem f33_ok : (Try.f33.name != "runtime.NumGoroutine" && Try.f33.body.isSome) = true := by kernel_rfl
noncomputable def codesR : List (Nat × Func × List (Nat × Hint)) := [(45, Try.f45, []), (58, Try.f58, [(2, ⟨[.var 8 (.d (.int .i64))], [], (some (0, []))⟩)]), (59, Try.f59, []), (47, Try.f47, []), (53, Try.f53, []), (46, Try.f46, [(5, ⟨[.var 5 (.d (.int .i64)), .var 6 (.d (.int .i64)), .cel 0 [] (.st (.pair (.int .i64) (.int .i64)))], [], (some (0, [.var 5 (.d (.int .i64)), .cel 0 [] (.st (.pair (.int .i64) (.int .i64)))]))⟩)]), (60, Try.f60, [(2, ⟨[.var 8 (.d (.int .i64))], [], (some (0, []))⟩)]), (52, Try.f52, [(4, ⟨[.var 3 (.d (.int .i64)), .cel 0 [] (.st (.pair (.int .i64) (.int .i64)))], [], (some (0, [.cel 0 [] (.st (.pair (.int .i64) (.int .i64)))]))⟩), (9, ⟨[.var 3 (.d (.int .i64)), .var 5 (.d (.int .i64)), .cel 0 [] (.st (.pair (.int .i64) (.int .i64)))], [], (some (2, [.var 3 (.d (.int .i64)), .cel 0 [] (.st (.pair (.int .i64) (.int .i64)))]))⟩)]), (57, Try.f57, [(3, ⟨[.var 13 (.d (.int .i64)), .box 3 [] (.s (.p (.o (.st (.pair .str (.pair .bool (.slice (.st (.pair (.int .i64) (.int .i64)))))))) (.d (.slice (.st (.pair (.int .i64) (.int .i64)))))))], [], (some (0, [.box 3 [] (.s (.p (.o (.st (.pair .str (.pair .bool (.slice (.st (.pair (.int .i64) (.int .i64)))))))) (.d (.slice (.st (.pair (.int .i64) (.int .i64)))))))]))⟩)]), (65, Try.f65, [(2, ⟨[.var 8 (.d (.int .i64))], [], (some (0, []))⟩)]), (66, Try.f66, []), (56, Try.f56, []), (29, Try.f29, [(3, ⟨[.var 9 (.o (.st (.pair (.int .i64) (.int .i64)))), .box 3 [0] (.o T_api_Atom), .box 8 [] (.d (.map T_api_Atom .bool))], [], (some (0, [.box 3 [0] (.o T_api_Atom), .box 8 [] (.d (.map T_api_Atom .bool))]))⟩)]), (30, Try.f30, [])]
theorem codesROk : CodesOk Try.prog codesR := .cons f45_at f45_ok <| .cons f58_at f58_ok <| .cons f59_at f59_ok <| .cons f47_at f47_ok <| .cons f53_at f53_ok <| .cons f46_at f46_ok <| .cons f60_at f60_ok <| .cons f52_at f52_ok <| .cons f57_at f57_ok <| .cons f65_at f65_ok <| .cons f66_at f66_ok <| .cons f56_at f56_ok <| .cons f29_at f29_ok <| .cons f30_at f30_ok <| .nil
noncomputable def codesF : List (Nat × Func × List (Nat × Hint)) := [(45, Try.f45, []), (58, Try.f58, [(2, ⟨[.var 8 (.d (.int .i64))], [], (some (0, []))⟩)]), (59, Try.f59, []), (47, Try.f47, []), (53, Try.f53, []), (46, Try.f46, [(5, ⟨[.var 5 (.d (.int .i64)), .var 6 (.d (.int .i64)), .cel 0 [] (.st (.pair (.int .i64) (.int .i64)))], [], (some (0, [.var 5 (.d (.int .i64)), .cel 0 [] (.st (.pair (.int .i64) (.int .i64)))]))⟩)]), (60, Try.f60, [(2, ⟨[.var 8 (.d (.int .i64))], [], (some (0, []))⟩)]), (52, Try.f52, [(4, ⟨[.var 3 (.d (.int .i64)), .cel 0 [] (.st (.pair (.int .i64) (.int .i64)))], [], (some (0, [.cel 0 [] (.st (.pair (.int .i64) (.int .i64)))]))⟩), (9, ⟨[.var 3 (.d (.int .i64)), .var 5 (.d (.int .i64)), .cel 0 [] (.st (.pair (.int .i64) (.int .i64)))], [], (some (2, [.var 3 (.d (.int .i64)), .cel 0 [] (.st (.pair (.int .i64) (.int .i64)))]))⟩)]), (57, Try.f57, [(3, ⟨[.var 13 (.d (.int .i64)), .box 3 [] (.s (.p (.o (.st (.pair .str (.pair .bool (.slice (.st (.pair (.int .i64) (.int .i64)))))))) (.d (.slice (.st (.pair (.int .i64) (.int .i64)))))))], [], (some (0, [.box 3 [] (.s (.p (.o (.st (.pair .str (.pair .bool (.slice (.st (.pair (.int .i64) (.int .i64)))))))) (.d (.slice (.st (.pair (.int .i64) (.int .i64)))))))]))⟩)]), (65, Try.f65, [(2, ⟨[.var 8 (.d (.int .i64))], [], (some (0, []))⟩)]), (66, Try.f66, []), (56, Try.f56, []), (29, Try.f29, [(3, ⟨[.var 9 (.o (.st (.pair (.int .i64) (.int .i64)))), .box 3 [0] (.d T_api_Found), .box 8 [] (.d (.map T_api_Atom .bool))], [], (some (0, [.box 3 [0] (.d T_api_Found), .box 8 [] (.d (.map T_api_Atom .bool))]))⟩)]), (33, Try.f33, [])]
theorem codesFOk : CodesOk Try.prog codesF := .cons f45_at f45_ok <| .cons f58_at f58_ok <| .cons f59_at f59_ok <| .cons f47_at f47_ok <| .cons f53_at f53_ok <| .cons f46_at f46_ok <| .cons f60_at f60_ok <| .cons f52_at f52_ok <| .cons f57_at f57_ok <| .cons f65_at f65_ok <| .cons f66_at f66_ok <| .cons f56_at f56_ok <| .cons f29_at f29_ok <| .cons f33_at f33_ok <| .nil
noncomputable abbrev EN (k : Nat) (sp : List (Nat × Go.PG.Spec)) : Go.PG.Env := { T := T, specs := sp, codes := codes, k := k, inpl := [(50, ⟨T_api_Atom, 51, sortF⟩)], calm := [57, 31, 0], maps := [(74, T_api_Atom, .bool)] }
noncomputable def slices_Clone_api_Atom_api_Atom : (k : Nat) → (Ty.D (.slice T_api_Atom)) → Option (Ty.D (.slice T_api_Atom)) := fun (k : Nat) (x : T_api_Atom.slice.D) => P.cond (P.ilt ((0 : Int)) (P.len x)) (P.cond (P.not true) (some []) (P.cond (P.room (P.add (P.len (P.nil (Int × Int))) (P.len x)) 16) (some (P.app [] x)) none)) (P.amb (some []) (P.cond (P.room (P.add (P.len (P.nil (Int × Int))) (P.len x)) 16) (some (P.app [] x)) none))
theorem slices_Clone_api_Atom_api_Atom_eq (k : Nat) (x : (Ty.D (.slice T_api_Atom))) : evFn (EN k []) 6 Try.f47 [] (.slice T_api_Atom) (.slice T_api_Atom) x = slices_Clone_api_Atom_api_Atom k x := by kernel_rfl
theorem slices_Clone_api_Atom_api_Atom_spec (k : Nat) : SpecOk Try.prog GG 47 ⟨(.slice T_api_Atom), (.slice T_api_Atom), slices_Clone_api_Atom_api_Atom k⟩ :=
  fn_spec (envOk (E := EN k []) tabOk (.nil) codesOk mixedOk (fun _ _ _ _ => trivial) (hi := inplOk) (hmp := mapsOk)) f47_at (fun x => (slices_Clone_api_Atom_api_Atom_eq k x).symm)
noncomputable def object_Copy : (k : Nat) → (Ty.D T_api_Shape) → Option (Ty.D T_api_Shape) := fun (k : Nat) (x : T_api_Shape.D) => P.bind (slices_Clone_api_Atom_api_Atom k x.snd) fun (r : List (Int × Int)) => P.bind (P.iter k (fun (y : Int × List (ByteArray × Bool × List (Int × Int)) × List (Int × Int)) => P.cond (P.ilt y.fst (P.len x.fst)) (P.cond (P.inb y.fst (P.len x.fst)) (P.bind (slices_Clone_api_Atom_api_Atom k (P.get x.fst y.fst ((ByteArray.mk #[]), false, [])).snd.snd) fun (r : List (Int × Int)) => P.cond (P.room (P.add (P.len y.snd.fst) (P.len [((P.get x.fst y.fst ((ByteArray.mk #[]), false, [])).fst, (P.get x.fst y.fst ((ByteArray.mk #[]), false, [])).snd.fst, r)])) 48) (some (Sum.inl (P.wrap IntKind.i64 (P.add y.fst ((1 : Int))), P.app y.snd.fst [((P.get x.fst y.fst ((ByteArray.mk #[]), false, [])).fst, (P.get x.fst y.fst ((ByteArray.mk #[]), false, [])).snd.fst, r)], y.snd.snd))) none) none) (some (Sum.inr (Sum.inl (y.snd.fst, y.snd.snd))))) ((0 : Int), [], r)) (P.either (fun (z : List (ByteArray × Bool × List (Int × Int)) × List (Int × Int)) => some (z.fst, z.snd)) fun (r : List (ByteArray × Bool × List (Int × Int)) × List (Int × Int)) => some r)
theorem object_Copy_eq (k : Nat) (x : (Ty.D T_api_Shape)) : evFn (EN k [(47, ⟨(.slice T_api_Atom), (.slice T_api_Atom), slices_Clone_api_Atom_api_Atom k⟩)]) 6 Try.f57 [(3, ⟨[.var 13 (.d (.int .i64)), .box 3 [] (.s (.p (.o (.st (.pair .str (.pair .bool (.slice (.st (.pair (.int .i64) (.int .i64)))))))) (.d (.slice (.st (.pair (.int .i64) (.int .i64)))))))], [], (some (0, [.box 3 [] (.s (.p (.o (.st (.pair .str (.pair .bool (.slice (.st (.pair (.int .i64) (.int .i64)))))))) (.d (.slice (.st (.pair (.int .i64) (.int .i64)))))))]))⟩)] T_api_Shape T_api_Shape x = object_Copy k x := by kernel_rfl
theorem object_Copy_spec (k : Nat) : SpecOk Try.prog GG 57 ⟨T_api_Shape, T_api_Shape, object_Copy k⟩ :=
  fn_spec (envOk (E := EN k [(47, ⟨(.slice T_api_Atom), (.slice T_api_Atom), slices_Clone_api_Atom_api_Atom k⟩)]) tabOk (.cons (slices_Clone_api_Atom_api_Atom_spec k) f47_at f47_ok <| .nil) codesOk mixedOk (fun _ _ _ _ => trivial) (hi := inplOk) (hmp := mapsOk)) f57_at (fun x => (object_Copy_eq k x).symm)
noncomputable def object_Get : (k : Nat) → (Ty.D (.pair T_api_Shape .str)) → Option (Ty.D (.pair T_api_Field .bool)) := fun (k : Nat) (x : (T_api_Shape.pair Ty.str).D) => P.bind (P.iter k (fun (y : Int) => P.cond (P.ilt y (P.len x.fst.fst)) (P.cond (P.inb y (P.len x.fst.fst)) (P.cond (P.seq (P.get x.fst.fst y ((ByteArray.mk #[]), false, [])).fst x.snd) (P.map (fun (r : (ByteArray × Bool × List (Int × Int)) × Bool) => Sum.inr (Sum.inr r)) (P.cond (P.ilt y ((0 : Int))) (some (((ByteArray.mk #[]), false, []), false)) (P.cond (P.inb y (P.len x.fst.fst)) (P.bind (slices_Clone_api_Atom_api_Atom k (P.get x.fst.fst y ((ByteArray.mk #[]), false, [])).snd.snd) fun (r : List (Int × Int)) => some (((P.get x.fst.fst y ((ByteArray.mk #[]), false, [])).fst, (P.get x.fst.fst y ((ByteArray.mk #[]), false, [])).snd.fst, r), true)) none))) (some (Sum.inl (P.wrap IntKind.i64 (P.add y ((1 : Int))))))) none) (some (Sum.inr (Sum.inl PUnit.unit)))) ((0 : Int))) (P.either (fun (z : PUnit) => P.cond (P.ilt ((-1 : Int)) ((0 : Int))) (some (((ByteArray.mk #[]), false, []), false)) (P.cond (P.inb ((-1 : Int)) (P.len x.fst.fst)) (P.bind (slices_Clone_api_Atom_api_Atom k (P.get x.fst.fst ((-1 : Int)) ((ByteArray.mk #[]), false, [])).snd.snd) fun (r : List (Int × Int)) => some (((P.get x.fst.fst ((-1 : Int)) ((ByteArray.mk #[]), false, [])).fst, (P.get x.fst.fst ((-1 : Int)) ((ByteArray.mk #[]), false, [])).snd.fst, r), true)) none)) fun (r : (ByteArray × Bool × List (Int × Int)) × Bool) => some r)
theorem object_Get_eq (k : Nat) (x : (Ty.D (.pair T_api_Shape .str))) : evFn (EN k [(47, ⟨(.slice T_api_Atom), (.slice T_api_Atom), slices_Clone_api_Atom_api_Atom k⟩)]) 6 Try.f45 [] (.pair T_api_Shape .str) (.pair T_api_Field .bool) x = object_Get k x := by kernel_rfl
theorem object_Get_spec (k : Nat) : SpecOk Try.prog GG 45 ⟨(.pair T_api_Shape .str), (.pair T_api_Field .bool), object_Get k⟩ :=
  fn_spec (envOk (E := EN k [(47, ⟨(.slice T_api_Atom), (.slice T_api_Atom), slices_Clone_api_Atom_api_Atom k⟩)]) tabOk (.cons (slices_Clone_api_Atom_api_Atom_spec k) f47_at f47_ok <| .nil) codesOk mixedOk (fun _ _ _ _ => trivial) (hi := inplOk) (hmp := mapsOk)) f45_at (fun x => (object_Get_eq k x).symm)
noncomputable def cmp_Or_int : (k : Nat) → (Ty.D (.slice (.int .i64))) → Option (Ty.D (.int .i64)) := fun (k : Nat) (x : (Ty.int IntKind.i64).slice.D) => P.bind (P.iter k (fun (y : Int) => P.cond (P.ilt y (P.len x)) (P.cond (P.inb y (P.len x)) (P.cond (P.not (P.ieq (P.get x y ((0 : Int))) ((0 : Int)))) (some (Sum.inr (Sum.inr (P.get x y ((0 : Int)))))) (some (Sum.inl (P.wrap IntKind.i64 (P.add y ((1 : Int))))))) none) (some (Sum.inr (Sum.inl PUnit.unit)))) ((0 : Int))) (P.either (fun (z : PUnit) => some ((0 : Int))) fun (r : Int) => some r)
theorem cmp_Or_int_eq (k : Nat) (x : (Ty.D (.slice (.int .i64)))) : evFn (EN k []) 6 Try.f63 [(3, ⟨[.var 8 (.d (.int .i64))], [], (some (0, []))⟩)] (.slice (.int .i64)) (.int .i64) x = cmp_Or_int k x := by kernel_rfl
theorem cmp_Or_int_spec (k : Nat) : SpecOk Try.prog GG 63 ⟨(.slice (.int .i64)), (.int .i64), cmp_Or_int k⟩ :=
  fn_spec (envOk (E := EN k []) tabOk (.nil) codesOk mixedOk (fun _ _ _ _ => trivial) (hi := inplOk) (hmp := mapsOk)) f63_at (fun x => (cmp_Or_int_eq k x).symm)
noncomputable def cmp_isNaN_int : (k : Nat) → (Ty.D (.int .i64)) → Option (Ty.D .bool) := fun (k : Nat) (x : (Ty.int IntKind.i64).D) => some (P.not (P.ieq x x))
theorem cmp_isNaN_int_eq (k : Nat) (x : (Ty.D (.int .i64))) : evFn (EN k []) 6 Try.f77 [] (.int .i64) .bool x = cmp_isNaN_int k x := by kernel_rfl
theorem cmp_isNaN_int_spec (k : Nat) : SpecOk Try.prog GG 77 ⟨(.int .i64), .bool, cmp_isNaN_int k⟩ :=
  fn_spec (envOk (E := EN k []) tabOk (.nil) codesOk mixedOk (fun _ _ _ _ => trivial) (hi := inplOk) (hmp := mapsOk)) f77_at (fun x => (cmp_isNaN_int_eq k x).symm)
noncomputable def cmp_Compare_int : (k : Nat) → (Ty.D (.pair (.int .i64) (.int .i64))) → Option (Ty.D (.int .i64)) := fun (k : Nat) (x : ((Ty.int IntKind.i64).pair (Ty.int IntKind.i64)).D) => P.bind (cmp_isNaN_int k x.fst) fun (r : Bool) => P.bind (cmp_isNaN_int k x.snd) fun (r_1 : Bool) => P.cond r (P.cond r_1 (some ((0 : Int))) (some ((-1 : Int)))) (P.cond r_1 (some ((1 : Int))) (P.cond (P.ilt x.fst x.snd) (some ((-1 : Int))) (P.cond (P.ilt x.snd x.fst) (some ((1 : Int))) (some ((0 : Int))))))
theorem cmp_Compare_int_eq (k : Nat) (x : (Ty.D (.pair (.int .i64) (.int .i64)))) : evFn (EN k [(77, ⟨(.int .i64), .bool, cmp_isNaN_int k⟩)]) 6 Try.f64 [] (.pair (.int .i64) (.int .i64)) (.int .i64) x = cmp_Compare_int k x := by kernel_rfl
theorem cmp_Compare_int_spec (k : Nat) : SpecOk Try.prog GG 64 ⟨(.pair (.int .i64) (.int .i64)), (.int .i64), cmp_Compare_int k⟩ :=
  fn_spec (envOk (E := EN k [(77, ⟨(.int .i64), .bool, cmp_isNaN_int k⟩)]) tabOk (.cons (cmp_isNaN_int_spec k) f77_at f77_ok <| .nil) codesOk mixedOk (fun _ _ _ _ => trivial) (hi := inplOk) (hmp := mapsOk)) f64_at (fun x => (cmp_Compare_int_eq k x).symm)
noncomputable def atoms_Compare : (k : Nat) → (Ty.D (.pair T_api_Atom T_api_Atom)) → Option (Ty.D (.int .i64)) := fun (k : Nat) (x : (T_api_Atom.pair T_api_Atom).D) => P.bind (cmp_Compare_int k (x.fst.fst, x.snd.fst)) fun (r : Int) => P.bind (cmp_Compare_int k (x.fst.snd, x.snd.snd)) fun (r_1 : Int) => P.bind (cmp_Or_int k [r, r_1]) fun (r : Int) => some r
theorem atoms_Compare_eq (k : Nat) (x : (Ty.D (.pair T_api_Atom T_api_Atom))) : evFn (EN k [(63, ⟨(.slice (.int .i64)), (.int .i64), cmp_Or_int k⟩), (64, ⟨(.pair (.int .i64) (.int .i64)), (.int .i64), cmp_Compare_int k⟩)]) 6 Try.f51 [] (.pair T_api_Atom T_api_Atom) (.int .i64) x = atoms_Compare k x := by kernel_rfl
theorem atoms_Compare_spec (k : Nat) : SpecOk Try.prog GG 51 ⟨(.pair T_api_Atom T_api_Atom), (.int .i64), atoms_Compare k⟩ :=
  fn_spec (envOk (E := EN k [(63, ⟨(.slice (.int .i64)), (.int .i64), cmp_Or_int k⟩), (64, ⟨(.pair (.int .i64) (.int .i64)), (.int .i64), cmp_Compare_int k⟩)]) tabOk (.cons (cmp_Or_int_spec k) f63_at f63_ok <| .cons (cmp_Compare_int_spec k) f64_at f64_ok <| .nil) codesOk mixedOk (fun _ _ _ _ => trivial) (hi := inplOk) (hmp := mapsOk)) f51_at (fun x => (atoms_Compare_eq k x).symm)
noncomputable def atoms_right : (k : Nat) → (Ty.D T_api_Atom) → Option (Ty.D .bool) := fun (k : Nat) (x : T_api_Atom.D) => P.cond (P.ieq x.fst ((3 : Int))) (some (P.ile ((0 : Int)) x.snd)) (P.cond (P.ieq x.fst ((4 : Int))) (some (P.ile ((0 : Int)) x.snd)) (P.cond (P.ieq x.fst ((5 : Int))) (some (P.ile ((0 : Int)) x.snd)) (P.cond (P.ieq x.fst ((0 : Int))) (some (P.ieq x.snd ((0 : Int)))) (P.cond (P.ieq x.fst ((1 : Int))) (some (P.ieq x.snd ((0 : Int)))) (P.cond (P.ieq x.fst ((2 : Int))) (some (P.ieq x.snd ((0 : Int)))) (P.cond (P.ieq x.fst ((6 : Int))) (some (P.ieq x.snd ((0 : Int)))) (some false)))))))
theorem atoms_right_eq (k : Nat) (x : (Ty.D T_api_Atom)) : evFn (EN k []) 6 Try.f49 [] T_api_Atom .bool x = atoms_right k x := by kernel_rfl
theorem atoms_right_spec (k : Nat) : SpecOk Try.prog GG 49 ⟨T_api_Atom, .bool, atoms_right k⟩ :=
  fn_spec (envOk (E := EN k []) tabOk (.nil) codesOk mixedOk (fun _ _ _ _ => trivial) (hi := inplOk) (hmp := mapsOk)) f49_at (fun x => (atoms_right_eq k x).symm)
noncomputable def atoms_Norm_1 : (k : Nat) → (Ty.D T_api_Atom) → Option (Ty.D .bool) := fun (k : Nat) (x : T_api_Atom.D) => P.bind (atoms_right k x) fun (r : Bool) => some (P.not r)
theorem atoms_Norm_1_eq (k : Nat) (x : (Ty.D T_api_Atom)) : evFn (EN k [(49, ⟨T_api_Atom, .bool, atoms_right k⟩)]) 6 Try.f48 [] T_api_Atom .bool x = atoms_Norm_1 k x := by kernel_rfl
theorem atoms_Norm_1_spec (k : Nat) : SpecOk Try.prog GG 48 ⟨T_api_Atom, .bool, atoms_Norm_1 k⟩ :=
  fn_spec (envOk (E := EN k [(49, ⟨T_api_Atom, .bool, atoms_right k⟩)]) tabOk (.cons (atoms_right_spec k) f49_at f49_ok <| .nil) codesOk mixedOk (fun _ _ _ _ => trivial) (hi := inplOk) (hmp := mapsOk)) f48_at (fun x => (atoms_Norm_1_eq k x).symm)
noncomputable def lookup_place : (k : Nat) → (Ty.D T_api_Atom) → Option (Ty.D .bool) := fun (k : Nat) (x : T_api_Atom.D) => P.cond (P.ieq x.fst ((4 : Int))) (some true) (some (P.ieq x.fst ((5 : Int))))
theorem lookup_place_eq (k : Nat) (x : (Ty.D T_api_Atom)) : evFn (EN k []) 6 Try.f34 [] T_api_Atom .bool x = lookup_place k x := by kernel_rfl
theorem lookup_place_spec (k : Nat) : SpecOk Try.prog GG 34 ⟨T_api_Atom, .bool, lookup_place k⟩ :=
  fn_spec (envOk (E := EN k []) tabOk (.nil) codesOk mixedOk (fun _ _ _ _ => trivial) (hi := inplOk) (hmp := mapsOk)) f34_at (fun x => (lookup_place_eq k x).symm)
noncomputable def state_Loc : (k : Nat) → (Ty.D (.pair T_api_State T_api_Atom)) → Option (Ty.D (.pair T_api_Shape .bool)) := fun (k : Nat) (x : (T_api_State.pair T_api_Atom).D) => P.bind (P.iter k (fun (y : Int) => P.cond (P.ilt y (P.len x.fst.snd.snd)) (P.cond (P.inb y (P.len x.fst.snd.snd)) (P.cond (P.and (P.ieq (P.get x.fst.snd.snd y (((0 : Int), (0 : Int)), [], [])).fst.fst x.snd.fst) (P.ieq (P.get x.fst.snd.snd y (((0 : Int), (0 : Int)), [], [])).fst.snd x.snd.snd)) (P.map (fun (r : (List (ByteArray × Bool × List (Int × Int)) × List (Int × Int)) × Bool) => Sum.inr (Sum.inr r)) (P.cond (P.ile ((0 : Int)) y) (P.cond (P.inb y (P.len x.fst.snd.snd)) (P.bind (object_Copy k (P.get x.fst.snd.snd y (((0 : Int), (0 : Int)), [], [])).snd) fun (r : List (ByteArray × Bool × List (Int × Int)) × List (Int × Int)) => some (r, true)) none) (some (([], []), false)))) (some (Sum.inl (P.wrap IntKind.i64 (P.add y ((1 : Int))))))) none) (some (Sum.inr (Sum.inl PUnit.unit)))) ((0 : Int))) (P.either (fun (z : PUnit) => P.cond (P.ile ((0 : Int)) ((-1 : Int))) (P.cond (P.inb ((-1 : Int)) (P.len x.fst.snd.snd)) (P.bind (object_Copy k (P.get x.fst.snd.snd ((-1 : Int)) (((0 : Int), (0 : Int)), [], [])).snd) fun (r : List (ByteArray × Bool × List (Int × Int)) × List (Int × Int)) => some (r, true)) none) (some (([], []), false))) fun (r : (List (ByteArray × Bool × List (Int × Int)) × List (Int × Int)) × Bool) => some r)
theorem state_Loc_eq (k : Nat) (x : (Ty.D (.pair T_api_State T_api_Atom))) : evFn (EN k [(47, ⟨(.slice T_api_Atom), (.slice T_api_Atom), slices_Clone_api_Atom_api_Atom k⟩), (57, ⟨T_api_Shape, T_api_Shape, object_Copy k⟩)]) 6 Try.f44 [] (.pair T_api_State T_api_Atom) (.pair T_api_Shape .bool) x = state_Loc k x := by kernel_rfl
theorem state_Loc_spec (k : Nat) : SpecOk Try.prog GG 44 ⟨(.pair T_api_State T_api_Atom), (.pair T_api_Shape .bool), state_Loc k⟩ :=
  fn_spec (envOk (E := EN k [(47, ⟨(.slice T_api_Atom), (.slice T_api_Atom), slices_Clone_api_Atom_api_Atom k⟩), (57, ⟨T_api_Shape, T_api_Shape, object_Copy k⟩)]) tabOk (.cons (slices_Clone_api_Atom_api_Atom_spec k) f47_at f47_ok <| .cons (object_Copy_spec k) f57_at f57_ok <| .nil) codesOk mixedOk (fun _ _ _ _ => trivial) (hi := inplOk) (hmp := mapsOk)) f44_at (fun x => (state_Loc_eq k x).symm)
noncomputable def atoms_Norm : (k : Nat) → (Ty.D (.slice T_api_Atom)) → Option (Ty.D (.slice T_api_Atom)) := fun (k : Nat) (x : T_api_Atom.slice.D) => P.cond (P.ilt ((0 : Int)) (P.len x)) (P.cond (P.not true) (P.bind (P.iter k (fun (y : Int) => P.cond (P.ilt y ((0 : Int))) none (some (Sum.inr (Sum.inl PUnit.unit)))) ((0 : Int))) (P.either (fun (z : PUnit) => P.cond (P.ieq ((-1 : Int)) ((-1 : Int))) (P.bind (sortF []) fun (x : List (Int × Int)) => P.cond (P.ilt ((0 : Int)) ((2 : Int))) (some []) (P.bind (P.iter k (fun (y : Int × List (Int × Int)) => P.cond (P.ilt y.fst ((0 : Int))) none (some (Sum.inr (Sum.inl [])))) ((1 : Int), [])) (P.either (fun (z : List (Int × Int)) => some []) fun (r : List (Int × Int)) => some r))) (P.bind (P.iter k (fun (y : Int × Int × List (Int × Int)) => P.cond (P.ilt y.snd.fst ((0 : Int))) none (some (Sum.inr (Sum.inl (y.fst, []))))) ((-1 : Int), P.wrap IntKind.i64 (P.add ((-1 : Int)) ((1 : Int))), [])) (P.either (fun (z : Int × List (Int × Int)) => P.cond (P.cut z.fst ((0 : Int)) ((0 : Int))) (P.cond (P.cut ((0 : Int)) z.fst ((0 : Int))) (P.bind (sortF []) fun (x : List (Int × Int)) => P.cond (P.ilt ((0 : Int)) ((2 : Int))) (some []) (P.bind (P.iter k (fun (y : Int × List (Int × Int)) => P.cond (P.ilt y.fst ((0 : Int))) none (some (Sum.inr (Sum.inl [])))) ((1 : Int), [])) (P.either (fun (z : List (Int × Int)) => some []) fun (r : List (Int × Int)) => some r))) none) none) fun (r : List (Int × Int)) => some r))) fun (r : List (Int × Int)) => some r)) (P.cond (P.room (P.add (P.len (P.nil (Int × Int))) (P.len x)) 16) (P.bind (P.iter k (fun (y : Int) => P.cond (P.ilt y (P.len (P.app [] x))) (P.cond (P.inb y (P.len (P.app [] x))) (P.bind (atoms_Norm_1 k (P.get (P.app [] x) y ((0 : Int), (0 : Int)))) fun (r : Bool) => P.cond r (P.map (fun (r : List (Int × Int)) => Sum.inr (Sum.inr r)) (P.cond (P.ieq y ((-1 : Int))) (P.bind (sortF (P.app [] x)) fun (ys : List (Int × Int)) => P.cond (P.ilt (P.len ys) ((2 : Int))) (some ys) (P.bind (P.iter k (fun (y : Int × List (Int × Int)) => P.cond (P.ilt y.fst (P.len y.snd)) (P.cond (P.inb y.fst (P.len y.snd)) (P.cond (P.inb (P.wrap IntKind.i64 (P.sub y.fst ((1 : Int)))) (P.len y.snd)) (P.cond (P.and (P.ieq (P.get y.snd y.fst ((0 : Int), (0 : Int))).fst (P.get y.snd (P.wrap IntKind.i64 (P.sub y.fst ((1 : Int)))) ((0 : Int), (0 : Int))).fst) (P.ieq (P.get y.snd y.fst ((0 : Int), (0 : Int))).snd (P.get y.snd (P.wrap IntKind.i64 (P.sub y.fst ((1 : Int)))) ((0 : Int), (0 : Int))).snd)) (P.cond (P.cut y.fst (P.len y.snd) (P.len y.snd)) (P.bind (P.iter k (fun (y_1 : Int × Int × List (Int × Int)) => P.cond (P.ilt y_1.snd.fst (P.sub (P.len y.snd) y.fst)) (P.cond (P.inb y_1.snd.fst (P.sub (P.len y.snd) y.fst)) (P.cond (P.inb (P.wrap IntKind.i64 (P.sub y_1.snd.fst ((1 : Int)))) (P.sub (P.len y.snd) y.fst)) (P.cond (P.not (P.and (P.ieq (P.get y_1.snd.snd (P.add y.fst y_1.snd.fst) ((0 : Int), (0 : Int))).fst (P.get y_1.snd.snd (P.add y.fst (P.wrap IntKind.i64 (P.sub y_1.snd.fst ((1 : Int))))) ((0 : Int), (0 : Int))).fst) (P.ieq (P.get y_1.snd.snd (P.add y.fst y_1.snd.fst) ((0 : Int), (0 : Int))).snd (P.get y_1.snd.snd (P.add y.fst (P.wrap IntKind.i64 (P.sub y_1.snd.fst ((1 : Int))))) ((0 : Int), (0 : Int))).snd))) (P.cond (P.inb y_1.snd.fst (P.sub (P.len y.snd) y.fst)) (P.cond (P.inb y_1.fst (P.len y_1.snd.snd)) (some (Sum.inl (P.wrap IntKind.i64 (P.add y_1.fst ((1 : Int))), P.wrap IntKind.i64 (P.add y_1.snd.fst ((1 : Int))), P.set y_1.snd.snd y_1.fst (P.get y_1.snd.snd (P.add y.fst y_1.snd.fst) ((0 : Int), (0 : Int)))))) none) none) (some (Sum.inl (y_1.fst, P.wrap IntKind.i64 (P.add y_1.snd.fst ((1 : Int))), y_1.snd.snd)))) none) none) (some (Sum.inr (Sum.inl (y_1.fst, y_1.snd.snd))))) (y.fst, (1 : Int), y.snd)) (P.either (fun (z : Int × List (Int × Int)) => P.cond (P.cut z.fst (P.len z.snd) (P.len z.snd)) (P.cond (P.cut ((0 : Int)) z.fst (P.len (P.fill z.snd z.fst (P.sub (P.len z.snd) z.fst) ((0 : Int), (0 : Int))))) (some (Sum.inr (Sum.inr (P.sub_ (P.fill z.snd z.fst (P.sub (P.len z.snd) z.fst) ((0 : Int), (0 : Int))) ((0 : Int)) z.fst)))) none) none) fun (r : Int × List (Int × Int) ⊕ List (Int × Int) ⊕ List (Int × Int)) => some r)) none) (some (Sum.inl (P.wrap IntKind.i64 (P.add y.fst ((1 : Int))), y.snd)))) none) none) (some (Sum.inr (Sum.inl y.snd)))) ((1 : Int), ys)) (P.either (fun (z : List (Int × Int)) => some z) fun (r : List (Int × Int)) => some r))) (P.bind (P.iter k (fun (y : Int × Int × List (Int × Int)) => P.cond (P.ilt y.snd.fst (P.len y.snd.snd)) (P.cond (P.inb y.snd.fst (P.len y.snd.snd)) (P.bind (atoms_Norm_1 k (P.get y.snd.snd y.snd.fst ((0 : Int), (0 : Int)))) fun (r : Bool) => P.cond (P.not r) (P.cond (P.inb y.fst (P.len y.snd.snd)) (some (Sum.inl (P.wrap IntKind.i64 (P.add y.fst ((1 : Int))), P.wrap IntKind.i64 (P.add y.snd.fst ((1 : Int))), P.set y.snd.snd y.fst (P.get y.snd.snd y.snd.fst ((0 : Int), (0 : Int)))))) none) (some (Sum.inl (y.fst, P.wrap IntKind.i64 (P.add y.snd.fst ((1 : Int))), y.snd.snd)))) none) (some (Sum.inr (Sum.inl (y.fst, y.snd.snd))))) (y, P.wrap IntKind.i64 (P.add y ((1 : Int))), P.app [] x)) (P.either (fun (z : Int × List (Int × Int)) => P.cond (P.cut z.fst (P.len z.snd) (P.len z.snd)) (P.cond (P.cut ((0 : Int)) z.fst (P.len (P.fill z.snd z.fst (P.sub (P.len z.snd) z.fst) ((0 : Int), (0 : Int))))) (P.bind (sortF (P.sub_ (P.fill z.snd z.fst (P.sub (P.len z.snd) z.fst) ((0 : Int), (0 : Int))) ((0 : Int)) z.fst)) fun (ys : List (Int × Int)) => P.cond (P.ilt (P.len ys) ((2 : Int))) (some ys) (P.bind (P.iter k (fun (y : Int × List (Int × Int)) => P.cond (P.ilt y.fst (P.len y.snd)) (P.cond (P.inb y.fst (P.len y.snd)) (P.cond (P.inb (P.wrap IntKind.i64 (P.sub y.fst ((1 : Int)))) (P.len y.snd)) (P.cond (P.and (P.ieq (P.get y.snd y.fst ((0 : Int), (0 : Int))).fst (P.get y.snd (P.wrap IntKind.i64 (P.sub y.fst ((1 : Int)))) ((0 : Int), (0 : Int))).fst) (P.ieq (P.get y.snd y.fst ((0 : Int), (0 : Int))).snd (P.get y.snd (P.wrap IntKind.i64 (P.sub y.fst ((1 : Int)))) ((0 : Int), (0 : Int))).snd)) (P.cond (P.cut y.fst (P.len y.snd) (P.len y.snd)) (P.bind (P.iter k (fun (y_1 : Int × Int × List (Int × Int)) => P.cond (P.ilt y_1.snd.fst (P.sub (P.len y.snd) y.fst)) (P.cond (P.inb y_1.snd.fst (P.sub (P.len y.snd) y.fst)) (P.cond (P.inb (P.wrap IntKind.i64 (P.sub y_1.snd.fst ((1 : Int)))) (P.sub (P.len y.snd) y.fst)) (P.cond (P.not (P.and (P.ieq (P.get y_1.snd.snd (P.add y.fst y_1.snd.fst) ((0 : Int), (0 : Int))).fst (P.get y_1.snd.snd (P.add y.fst (P.wrap IntKind.i64 (P.sub y_1.snd.fst ((1 : Int))))) ((0 : Int), (0 : Int))).fst) (P.ieq (P.get y_1.snd.snd (P.add y.fst y_1.snd.fst) ((0 : Int), (0 : Int))).snd (P.get y_1.snd.snd (P.add y.fst (P.wrap IntKind.i64 (P.sub y_1.snd.fst ((1 : Int))))) ((0 : Int), (0 : Int))).snd))) (P.cond (P.inb y_1.snd.fst (P.sub (P.len y.snd) y.fst)) (P.cond (P.inb y_1.fst (P.len y_1.snd.snd)) (some (Sum.inl (P.wrap IntKind.i64 (P.add y_1.fst ((1 : Int))), P.wrap IntKind.i64 (P.add y_1.snd.fst ((1 : Int))), P.set y_1.snd.snd y_1.fst (P.get y_1.snd.snd (P.add y.fst y_1.snd.fst) ((0 : Int), (0 : Int)))))) none) none) (some (Sum.inl (y_1.fst, P.wrap IntKind.i64 (P.add y_1.snd.fst ((1 : Int))), y_1.snd.snd)))) none) none) (some (Sum.inr (Sum.inl (y_1.fst, y_1.snd.snd))))) (y.fst, (1 : Int), y.snd)) (P.either (fun (z : Int × List (Int × Int)) => P.cond (P.cut z.fst (P.len z.snd) (P.len z.snd)) (P.cond (P.cut ((0 : Int)) z.fst (P.len (P.fill z.snd z.fst (P.sub (P.len z.snd) z.fst) ((0 : Int), (0 : Int))))) (some (Sum.inr (Sum.inr (P.sub_ (P.fill z.snd z.fst (P.sub (P.len z.snd) z.fst) ((0 : Int), (0 : Int))) ((0 : Int)) z.fst)))) none) none) fun (r : Int × List (Int × Int) ⊕ List (Int × Int) ⊕ List (Int × Int)) => some r)) none) (some (Sum.inl (P.wrap IntKind.i64 (P.add y.fst ((1 : Int))), y.snd)))) none) none) (some (Sum.inr (Sum.inl y.snd)))) ((1 : Int), ys)) (P.either (fun (z : List (Int × Int)) => some z) fun (r : List (Int × Int)) => some r))) none) none) fun (r : List (Int × Int)) => some r)))) (some (Sum.inl (P.wrap IntKind.i64 (P.add y ((1 : Int))))))) none) (some (Sum.inr (Sum.inl PUnit.unit)))) ((0 : Int))) (P.either (fun (z : PUnit) => P.cond (P.ieq ((-1 : Int)) ((-1 : Int))) (P.bind (sortF (P.app [] x)) fun (ys : List (Int × Int)) => P.cond (P.ilt (P.len ys) ((2 : Int))) (some ys) (P.bind (P.iter k (fun (y : Int × List (Int × Int)) => P.cond (P.ilt y.fst (P.len y.snd)) (P.cond (P.inb y.fst (P.len y.snd)) (P.cond (P.inb (P.wrap IntKind.i64 (P.sub y.fst ((1 : Int)))) (P.len y.snd)) (P.cond (P.and (P.ieq (P.get y.snd y.fst ((0 : Int), (0 : Int))).fst (P.get y.snd (P.wrap IntKind.i64 (P.sub y.fst ((1 : Int)))) ((0 : Int), (0 : Int))).fst) (P.ieq (P.get y.snd y.fst ((0 : Int), (0 : Int))).snd (P.get y.snd (P.wrap IntKind.i64 (P.sub y.fst ((1 : Int)))) ((0 : Int), (0 : Int))).snd)) (P.cond (P.cut y.fst (P.len y.snd) (P.len y.snd)) (P.bind (P.iter k (fun (y_1 : Int × Int × List (Int × Int)) => P.cond (P.ilt y_1.snd.fst (P.sub (P.len y.snd) y.fst)) (P.cond (P.inb y_1.snd.fst (P.sub (P.len y.snd) y.fst)) (P.cond (P.inb (P.wrap IntKind.i64 (P.sub y_1.snd.fst ((1 : Int)))) (P.sub (P.len y.snd) y.fst)) (P.cond (P.not (P.and (P.ieq (P.get y_1.snd.snd (P.add y.fst y_1.snd.fst) ((0 : Int), (0 : Int))).fst (P.get y_1.snd.snd (P.add y.fst (P.wrap IntKind.i64 (P.sub y_1.snd.fst ((1 : Int))))) ((0 : Int), (0 : Int))).fst) (P.ieq (P.get y_1.snd.snd (P.add y.fst y_1.snd.fst) ((0 : Int), (0 : Int))).snd (P.get y_1.snd.snd (P.add y.fst (P.wrap IntKind.i64 (P.sub y_1.snd.fst ((1 : Int))))) ((0 : Int), (0 : Int))).snd))) (P.cond (P.inb y_1.snd.fst (P.sub (P.len y.snd) y.fst)) (P.cond (P.inb y_1.fst (P.len y_1.snd.snd)) (some (Sum.inl (P.wrap IntKind.i64 (P.add y_1.fst ((1 : Int))), P.wrap IntKind.i64 (P.add y_1.snd.fst ((1 : Int))), P.set y_1.snd.snd y_1.fst (P.get y_1.snd.snd (P.add y.fst y_1.snd.fst) ((0 : Int), (0 : Int)))))) none) none) (some (Sum.inl (y_1.fst, P.wrap IntKind.i64 (P.add y_1.snd.fst ((1 : Int))), y_1.snd.snd)))) none) none) (some (Sum.inr (Sum.inl (y_1.fst, y_1.snd.snd))))) (y.fst, (1 : Int), y.snd)) (P.either (fun (z : Int × List (Int × Int)) => P.cond (P.cut z.fst (P.len z.snd) (P.len z.snd)) (P.cond (P.cut ((0 : Int)) z.fst (P.len (P.fill z.snd z.fst (P.sub (P.len z.snd) z.fst) ((0 : Int), (0 : Int))))) (some (Sum.inr (Sum.inr (P.sub_ (P.fill z.snd z.fst (P.sub (P.len z.snd) z.fst) ((0 : Int), (0 : Int))) ((0 : Int)) z.fst)))) none) none) fun (r : Int × List (Int × Int) ⊕ List (Int × Int) ⊕ List (Int × Int)) => some r)) none) (some (Sum.inl (P.wrap IntKind.i64 (P.add y.fst ((1 : Int))), y.snd)))) none) none) (some (Sum.inr (Sum.inl y.snd)))) ((1 : Int), ys)) (P.either (fun (z : List (Int × Int)) => some z) fun (r : List (Int × Int)) => some r))) (P.bind (P.iter k (fun (y : Int × Int × List (Int × Int)) => P.cond (P.ilt y.snd.fst (P.len y.snd.snd)) (P.cond (P.inb y.snd.fst (P.len y.snd.snd)) (P.bind (atoms_Norm_1 k (P.get y.snd.snd y.snd.fst ((0 : Int), (0 : Int)))) fun (r : Bool) => P.cond (P.not r) (P.cond (P.inb y.fst (P.len y.snd.snd)) (some (Sum.inl (P.wrap IntKind.i64 (P.add y.fst ((1 : Int))), P.wrap IntKind.i64 (P.add y.snd.fst ((1 : Int))), P.set y.snd.snd y.fst (P.get y.snd.snd y.snd.fst ((0 : Int), (0 : Int)))))) none) (some (Sum.inl (y.fst, P.wrap IntKind.i64 (P.add y.snd.fst ((1 : Int))), y.snd.snd)))) none) (some (Sum.inr (Sum.inl (y.fst, y.snd.snd))))) ((-1 : Int), P.wrap IntKind.i64 (P.add ((-1 : Int)) ((1 : Int))), P.app [] x)) (P.either (fun (z : Int × List (Int × Int)) => P.cond (P.cut z.fst (P.len z.snd) (P.len z.snd)) (P.cond (P.cut ((0 : Int)) z.fst (P.len (P.fill z.snd z.fst (P.sub (P.len z.snd) z.fst) ((0 : Int), (0 : Int))))) (P.bind (sortF (P.sub_ (P.fill z.snd z.fst (P.sub (P.len z.snd) z.fst) ((0 : Int), (0 : Int))) ((0 : Int)) z.fst)) fun (ys : List (Int × Int)) => P.cond (P.ilt (P.len ys) ((2 : Int))) (some ys) (P.bind (P.iter k (fun (y : Int × List (Int × Int)) => P.cond (P.ilt y.fst (P.len y.snd)) (P.cond (P.inb y.fst (P.len y.snd)) (P.cond (P.inb (P.wrap IntKind.i64 (P.sub y.fst ((1 : Int)))) (P.len y.snd)) (P.cond (P.and (P.ieq (P.get y.snd y.fst ((0 : Int), (0 : Int))).fst (P.get y.snd (P.wrap IntKind.i64 (P.sub y.fst ((1 : Int)))) ((0 : Int), (0 : Int))).fst) (P.ieq (P.get y.snd y.fst ((0 : Int), (0 : Int))).snd (P.get y.snd (P.wrap IntKind.i64 (P.sub y.fst ((1 : Int)))) ((0 : Int), (0 : Int))).snd)) (P.cond (P.cut y.fst (P.len y.snd) (P.len y.snd)) (P.bind (P.iter k (fun (y_1 : Int × Int × List (Int × Int)) => P.cond (P.ilt y_1.snd.fst (P.sub (P.len y.snd) y.fst)) (P.cond (P.inb y_1.snd.fst (P.sub (P.len y.snd) y.fst)) (P.cond (P.inb (P.wrap IntKind.i64 (P.sub y_1.snd.fst ((1 : Int)))) (P.sub (P.len y.snd) y.fst)) (P.cond (P.not (P.and (P.ieq (P.get y_1.snd.snd (P.add y.fst y_1.snd.fst) ((0 : Int), (0 : Int))).fst (P.get y_1.snd.snd (P.add y.fst (P.wrap IntKind.i64 (P.sub y_1.snd.fst ((1 : Int))))) ((0 : Int), (0 : Int))).fst) (P.ieq (P.get y_1.snd.snd (P.add y.fst y_1.snd.fst) ((0 : Int), (0 : Int))).snd (P.get y_1.snd.snd (P.add y.fst (P.wrap IntKind.i64 (P.sub y_1.snd.fst ((1 : Int))))) ((0 : Int), (0 : Int))).snd))) (P.cond (P.inb y_1.snd.fst (P.sub (P.len y.snd) y.fst)) (P.cond (P.inb y_1.fst (P.len y_1.snd.snd)) (some (Sum.inl (P.wrap IntKind.i64 (P.add y_1.fst ((1 : Int))), P.wrap IntKind.i64 (P.add y_1.snd.fst ((1 : Int))), P.set y_1.snd.snd y_1.fst (P.get y_1.snd.snd (P.add y.fst y_1.snd.fst) ((0 : Int), (0 : Int)))))) none) none) (some (Sum.inl (y_1.fst, P.wrap IntKind.i64 (P.add y_1.snd.fst ((1 : Int))), y_1.snd.snd)))) none) none) (some (Sum.inr (Sum.inl (y_1.fst, y_1.snd.snd))))) (y.fst, (1 : Int), y.snd)) (P.either (fun (z : Int × List (Int × Int)) => P.cond (P.cut z.fst (P.len z.snd) (P.len z.snd)) (P.cond (P.cut ((0 : Int)) z.fst (P.len (P.fill z.snd z.fst (P.sub (P.len z.snd) z.fst) ((0 : Int), (0 : Int))))) (some (Sum.inr (Sum.inr (P.sub_ (P.fill z.snd z.fst (P.sub (P.len z.snd) z.fst) ((0 : Int), (0 : Int))) ((0 : Int)) z.fst)))) none) none) fun (r : Int × List (Int × Int) ⊕ List (Int × Int) ⊕ List (Int × Int)) => some r)) none) (some (Sum.inl (P.wrap IntKind.i64 (P.add y.fst ((1 : Int))), y.snd)))) none) none) (some (Sum.inr (Sum.inl y.snd)))) ((1 : Int), ys)) (P.either (fun (z : List (Int × Int)) => some z) fun (r : List (Int × Int)) => some r))) none) none) fun (r : List (Int × Int)) => some r))) fun (r : List (Int × Int)) => some r)) none)) (P.amb (P.bind (P.iter k (fun (y : Int) => P.cond (P.ilt y ((0 : Int))) none (some (Sum.inr (Sum.inl PUnit.unit)))) ((0 : Int))) (P.either (fun (z : PUnit) => P.cond (P.ieq ((-1 : Int)) ((-1 : Int))) (P.bind (sortF []) fun (x : List (Int × Int)) => P.cond (P.ilt ((0 : Int)) ((2 : Int))) (some []) (P.bind (P.iter k (fun (y : Int × List (Int × Int)) => P.cond (P.ilt y.fst ((0 : Int))) none (some (Sum.inr (Sum.inl [])))) ((1 : Int), [])) (P.either (fun (z : List (Int × Int)) => some []) fun (r : List (Int × Int)) => some r))) (P.bind (P.iter k (fun (y : Int × Int × List (Int × Int)) => P.cond (P.ilt y.snd.fst ((0 : Int))) none (some (Sum.inr (Sum.inl (y.fst, []))))) ((-1 : Int), P.wrap IntKind.i64 (P.add ((-1 : Int)) ((1 : Int))), [])) (P.either (fun (z : Int × List (Int × Int)) => P.cond (P.cut z.fst ((0 : Int)) ((0 : Int))) (P.cond (P.cut ((0 : Int)) z.fst ((0 : Int))) (P.bind (sortF []) fun (x : List (Int × Int)) => P.cond (P.ilt ((0 : Int)) ((2 : Int))) (some []) (P.bind (P.iter k (fun (y : Int × List (Int × Int)) => P.cond (P.ilt y.fst ((0 : Int))) none (some (Sum.inr (Sum.inl [])))) ((1 : Int), [])) (P.either (fun (z : List (Int × Int)) => some []) fun (r : List (Int × Int)) => some r))) none) none) fun (r : List (Int × Int)) => some r))) fun (r : List (Int × Int)) => some r)) (P.cond (P.room (P.add (P.len (P.nil (Int × Int))) (P.len x)) 16) (P.bind (P.iter k (fun (y : Int) => P.cond (P.ilt y (P.len (P.app [] x))) (P.cond (P.inb y (P.len (P.app [] x))) (P.bind (atoms_Norm_1 k (P.get (P.app [] x) y ((0 : Int), (0 : Int)))) fun (r : Bool) => P.cond r (P.map (fun (r : List (Int × Int)) => Sum.inr (Sum.inr r)) (P.cond (P.ieq y ((-1 : Int))) (P.bind (sortF (P.app [] x)) fun (ys : List (Int × Int)) => P.cond (P.ilt (P.len ys) ((2 : Int))) (some ys) (P.bind (P.iter k (fun (y : Int × List (Int × Int)) => P.cond (P.ilt y.fst (P.len y.snd)) (P.cond (P.inb y.fst (P.len y.snd)) (P.cond (P.inb (P.wrap IntKind.i64 (P.sub y.fst ((1 : Int)))) (P.len y.snd)) (P.cond (P.and (P.ieq (P.get y.snd y.fst ((0 : Int), (0 : Int))).fst (P.get y.snd (P.wrap IntKind.i64 (P.sub y.fst ((1 : Int)))) ((0 : Int), (0 : Int))).fst) (P.ieq (P.get y.snd y.fst ((0 : Int), (0 : Int))).snd (P.get y.snd (P.wrap IntKind.i64 (P.sub y.fst ((1 : Int)))) ((0 : Int), (0 : Int))).snd)) (P.cond (P.cut y.fst (P.len y.snd) (P.len y.snd)) (P.bind (P.iter k (fun (y_1 : Int × Int × List (Int × Int)) => P.cond (P.ilt y_1.snd.fst (P.sub (P.len y.snd) y.fst)) (P.cond (P.inb y_1.snd.fst (P.sub (P.len y.snd) y.fst)) (P.cond (P.inb (P.wrap IntKind.i64 (P.sub y_1.snd.fst ((1 : Int)))) (P.sub (P.len y.snd) y.fst)) (P.cond (P.not (P.and (P.ieq (P.get y_1.snd.snd (P.add y.fst y_1.snd.fst) ((0 : Int), (0 : Int))).fst (P.get y_1.snd.snd (P.add y.fst (P.wrap IntKind.i64 (P.sub y_1.snd.fst ((1 : Int))))) ((0 : Int), (0 : Int))).fst) (P.ieq (P.get y_1.snd.snd (P.add y.fst y_1.snd.fst) ((0 : Int), (0 : Int))).snd (P.get y_1.snd.snd (P.add y.fst (P.wrap IntKind.i64 (P.sub y_1.snd.fst ((1 : Int))))) ((0 : Int), (0 : Int))).snd))) (P.cond (P.inb y_1.snd.fst (P.sub (P.len y.snd) y.fst)) (P.cond (P.inb y_1.fst (P.len y_1.snd.snd)) (some (Sum.inl (P.wrap IntKind.i64 (P.add y_1.fst ((1 : Int))), P.wrap IntKind.i64 (P.add y_1.snd.fst ((1 : Int))), P.set y_1.snd.snd y_1.fst (P.get y_1.snd.snd (P.add y.fst y_1.snd.fst) ((0 : Int), (0 : Int)))))) none) none) (some (Sum.inl (y_1.fst, P.wrap IntKind.i64 (P.add y_1.snd.fst ((1 : Int))), y_1.snd.snd)))) none) none) (some (Sum.inr (Sum.inl (y_1.fst, y_1.snd.snd))))) (y.fst, (1 : Int), y.snd)) (P.either (fun (z : Int × List (Int × Int)) => P.cond (P.cut z.fst (P.len z.snd) (P.len z.snd)) (P.cond (P.cut ((0 : Int)) z.fst (P.len (P.fill z.snd z.fst (P.sub (P.len z.snd) z.fst) ((0 : Int), (0 : Int))))) (some (Sum.inr (Sum.inr (P.sub_ (P.fill z.snd z.fst (P.sub (P.len z.snd) z.fst) ((0 : Int), (0 : Int))) ((0 : Int)) z.fst)))) none) none) fun (r : Int × List (Int × Int) ⊕ List (Int × Int) ⊕ List (Int × Int)) => some r)) none) (some (Sum.inl (P.wrap IntKind.i64 (P.add y.fst ((1 : Int))), y.snd)))) none) none) (some (Sum.inr (Sum.inl y.snd)))) ((1 : Int), ys)) (P.either (fun (z : List (Int × Int)) => some z) fun (r : List (Int × Int)) => some r))) (P.bind (P.iter k (fun (y : Int × Int × List (Int × Int)) => P.cond (P.ilt y.snd.fst (P.len y.snd.snd)) (P.cond (P.inb y.snd.fst (P.len y.snd.snd)) (P.bind (atoms_Norm_1 k (P.get y.snd.snd y.snd.fst ((0 : Int), (0 : Int)))) fun (r : Bool) => P.cond (P.not r) (P.cond (P.inb y.fst (P.len y.snd.snd)) (some (Sum.inl (P.wrap IntKind.i64 (P.add y.fst ((1 : Int))), P.wrap IntKind.i64 (P.add y.snd.fst ((1 : Int))), P.set y.snd.snd y.fst (P.get y.snd.snd y.snd.fst ((0 : Int), (0 : Int)))))) none) (some (Sum.inl (y.fst, P.wrap IntKind.i64 (P.add y.snd.fst ((1 : Int))), y.snd.snd)))) none) (some (Sum.inr (Sum.inl (y.fst, y.snd.snd))))) (y, P.wrap IntKind.i64 (P.add y ((1 : Int))), P.app [] x)) (P.either (fun (z : Int × List (Int × Int)) => P.cond (P.cut z.fst (P.len z.snd) (P.len z.snd)) (P.cond (P.cut ((0 : Int)) z.fst (P.len (P.fill z.snd z.fst (P.sub (P.len z.snd) z.fst) ((0 : Int), (0 : Int))))) (P.bind (sortF (P.sub_ (P.fill z.snd z.fst (P.sub (P.len z.snd) z.fst) ((0 : Int), (0 : Int))) ((0 : Int)) z.fst)) fun (ys : List (Int × Int)) => P.cond (P.ilt (P.len ys) ((2 : Int))) (some ys) (P.bind (P.iter k (fun (y : Int × List (Int × Int)) => P.cond (P.ilt y.fst (P.len y.snd)) (P.cond (P.inb y.fst (P.len y.snd)) (P.cond (P.inb (P.wrap IntKind.i64 (P.sub y.fst ((1 : Int)))) (P.len y.snd)) (P.cond (P.and (P.ieq (P.get y.snd y.fst ((0 : Int), (0 : Int))).fst (P.get y.snd (P.wrap IntKind.i64 (P.sub y.fst ((1 : Int)))) ((0 : Int), (0 : Int))).fst) (P.ieq (P.get y.snd y.fst ((0 : Int), (0 : Int))).snd (P.get y.snd (P.wrap IntKind.i64 (P.sub y.fst ((1 : Int)))) ((0 : Int), (0 : Int))).snd)) (P.cond (P.cut y.fst (P.len y.snd) (P.len y.snd)) (P.bind (P.iter k (fun (y_1 : Int × Int × List (Int × Int)) => P.cond (P.ilt y_1.snd.fst (P.sub (P.len y.snd) y.fst)) (P.cond (P.inb y_1.snd.fst (P.sub (P.len y.snd) y.fst)) (P.cond (P.inb (P.wrap IntKind.i64 (P.sub y_1.snd.fst ((1 : Int)))) (P.sub (P.len y.snd) y.fst)) (P.cond (P.not (P.and (P.ieq (P.get y_1.snd.snd (P.add y.fst y_1.snd.fst) ((0 : Int), (0 : Int))).fst (P.get y_1.snd.snd (P.add y.fst (P.wrap IntKind.i64 (P.sub y_1.snd.fst ((1 : Int))))) ((0 : Int), (0 : Int))).fst) (P.ieq (P.get y_1.snd.snd (P.add y.fst y_1.snd.fst) ((0 : Int), (0 : Int))).snd (P.get y_1.snd.snd (P.add y.fst (P.wrap IntKind.i64 (P.sub y_1.snd.fst ((1 : Int))))) ((0 : Int), (0 : Int))).snd))) (P.cond (P.inb y_1.snd.fst (P.sub (P.len y.snd) y.fst)) (P.cond (P.inb y_1.fst (P.len y_1.snd.snd)) (some (Sum.inl (P.wrap IntKind.i64 (P.add y_1.fst ((1 : Int))), P.wrap IntKind.i64 (P.add y_1.snd.fst ((1 : Int))), P.set y_1.snd.snd y_1.fst (P.get y_1.snd.snd (P.add y.fst y_1.snd.fst) ((0 : Int), (0 : Int)))))) none) none) (some (Sum.inl (y_1.fst, P.wrap IntKind.i64 (P.add y_1.snd.fst ((1 : Int))), y_1.snd.snd)))) none) none) (some (Sum.inr (Sum.inl (y_1.fst, y_1.snd.snd))))) (y.fst, (1 : Int), y.snd)) (P.either (fun (z : Int × List (Int × Int)) => P.cond (P.cut z.fst (P.len z.snd) (P.len z.snd)) (P.cond (P.cut ((0 : Int)) z.fst (P.len (P.fill z.snd z.fst (P.sub (P.len z.snd) z.fst) ((0 : Int), (0 : Int))))) (some (Sum.inr (Sum.inr (P.sub_ (P.fill z.snd z.fst (P.sub (P.len z.snd) z.fst) ((0 : Int), (0 : Int))) ((0 : Int)) z.fst)))) none) none) fun (r : Int × List (Int × Int) ⊕ List (Int × Int) ⊕ List (Int × Int)) => some r)) none) (some (Sum.inl (P.wrap IntKind.i64 (P.add y.fst ((1 : Int))), y.snd)))) none) none) (some (Sum.inr (Sum.inl y.snd)))) ((1 : Int), ys)) (P.either (fun (z : List (Int × Int)) => some z) fun (r : List (Int × Int)) => some r))) none) none) fun (r : List (Int × Int)) => some r)))) (some (Sum.inl (P.wrap IntKind.i64 (P.add y ((1 : Int))))))) none) (some (Sum.inr (Sum.inl PUnit.unit)))) ((0 : Int))) (P.either (fun (z : PUnit) => P.cond (P.ieq ((-1 : Int)) ((-1 : Int))) (P.bind (sortF (P.app [] x)) fun (ys : List (Int × Int)) => P.cond (P.ilt (P.len ys) ((2 : Int))) (some ys) (P.bind (P.iter k (fun (y : Int × List (Int × Int)) => P.cond (P.ilt y.fst (P.len y.snd)) (P.cond (P.inb y.fst (P.len y.snd)) (P.cond (P.inb (P.wrap IntKind.i64 (P.sub y.fst ((1 : Int)))) (P.len y.snd)) (P.cond (P.and (P.ieq (P.get y.snd y.fst ((0 : Int), (0 : Int))).fst (P.get y.snd (P.wrap IntKind.i64 (P.sub y.fst ((1 : Int)))) ((0 : Int), (0 : Int))).fst) (P.ieq (P.get y.snd y.fst ((0 : Int), (0 : Int))).snd (P.get y.snd (P.wrap IntKind.i64 (P.sub y.fst ((1 : Int)))) ((0 : Int), (0 : Int))).snd)) (P.cond (P.cut y.fst (P.len y.snd) (P.len y.snd)) (P.bind (P.iter k (fun (y_1 : Int × Int × List (Int × Int)) => P.cond (P.ilt y_1.snd.fst (P.sub (P.len y.snd) y.fst)) (P.cond (P.inb y_1.snd.fst (P.sub (P.len y.snd) y.fst)) (P.cond (P.inb (P.wrap IntKind.i64 (P.sub y_1.snd.fst ((1 : Int)))) (P.sub (P.len y.snd) y.fst)) (P.cond (P.not (P.and (P.ieq (P.get y_1.snd.snd (P.add y.fst y_1.snd.fst) ((0 : Int), (0 : Int))).fst (P.get y_1.snd.snd (P.add y.fst (P.wrap IntKind.i64 (P.sub y_1.snd.fst ((1 : Int))))) ((0 : Int), (0 : Int))).fst) (P.ieq (P.get y_1.snd.snd (P.add y.fst y_1.snd.fst) ((0 : Int), (0 : Int))).snd (P.get y_1.snd.snd (P.add y.fst (P.wrap IntKind.i64 (P.sub y_1.snd.fst ((1 : Int))))) ((0 : Int), (0 : Int))).snd))) (P.cond (P.inb y_1.snd.fst (P.sub (P.len y.snd) y.fst)) (P.cond (P.inb y_1.fst (P.len y_1.snd.snd)) (some (Sum.inl (P.wrap IntKind.i64 (P.add y_1.fst ((1 : Int))), P.wrap IntKind.i64 (P.add y_1.snd.fst ((1 : Int))), P.set y_1.snd.snd y_1.fst (P.get y_1.snd.snd (P.add y.fst y_1.snd.fst) ((0 : Int), (0 : Int)))))) none) none) (some (Sum.inl (y_1.fst, P.wrap IntKind.i64 (P.add y_1.snd.fst ((1 : Int))), y_1.snd.snd)))) none) none) (some (Sum.inr (Sum.inl (y_1.fst, y_1.snd.snd))))) (y.fst, (1 : Int), y.snd)) (P.either (fun (z : Int × List (Int × Int)) => P.cond (P.cut z.fst (P.len z.snd) (P.len z.snd)) (P.cond (P.cut ((0 : Int)) z.fst (P.len (P.fill z.snd z.fst (P.sub (P.len z.snd) z.fst) ((0 : Int), (0 : Int))))) (some (Sum.inr (Sum.inr (P.sub_ (P.fill z.snd z.fst (P.sub (P.len z.snd) z.fst) ((0 : Int), (0 : Int))) ((0 : Int)) z.fst)))) none) none) fun (r : Int × List (Int × Int) ⊕ List (Int × Int) ⊕ List (Int × Int)) => some r)) none) (some (Sum.inl (P.wrap IntKind.i64 (P.add y.fst ((1 : Int))), y.snd)))) none) none) (some (Sum.inr (Sum.inl y.snd)))) ((1 : Int), ys)) (P.either (fun (z : List (Int × Int)) => some z) fun (r : List (Int × Int)) => some r))) (P.bind (P.iter k (fun (y : Int × Int × List (Int × Int)) => P.cond (P.ilt y.snd.fst (P.len y.snd.snd)) (P.cond (P.inb y.snd.fst (P.len y.snd.snd)) (P.bind (atoms_Norm_1 k (P.get y.snd.snd y.snd.fst ((0 : Int), (0 : Int)))) fun (r : Bool) => P.cond (P.not r) (P.cond (P.inb y.fst (P.len y.snd.snd)) (some (Sum.inl (P.wrap IntKind.i64 (P.add y.fst ((1 : Int))), P.wrap IntKind.i64 (P.add y.snd.fst ((1 : Int))), P.set y.snd.snd y.fst (P.get y.snd.snd y.snd.fst ((0 : Int), (0 : Int)))))) none) (some (Sum.inl (y.fst, P.wrap IntKind.i64 (P.add y.snd.fst ((1 : Int))), y.snd.snd)))) none) (some (Sum.inr (Sum.inl (y.fst, y.snd.snd))))) ((-1 : Int), P.wrap IntKind.i64 (P.add ((-1 : Int)) ((1 : Int))), P.app [] x)) (P.either (fun (z : Int × List (Int × Int)) => P.cond (P.cut z.fst (P.len z.snd) (P.len z.snd)) (P.cond (P.cut ((0 : Int)) z.fst (P.len (P.fill z.snd z.fst (P.sub (P.len z.snd) z.fst) ((0 : Int), (0 : Int))))) (P.bind (sortF (P.sub_ (P.fill z.snd z.fst (P.sub (P.len z.snd) z.fst) ((0 : Int), (0 : Int))) ((0 : Int)) z.fst)) fun (ys : List (Int × Int)) => P.cond (P.ilt (P.len ys) ((2 : Int))) (some ys) (P.bind (P.iter k (fun (y : Int × List (Int × Int)) => P.cond (P.ilt y.fst (P.len y.snd)) (P.cond (P.inb y.fst (P.len y.snd)) (P.cond (P.inb (P.wrap IntKind.i64 (P.sub y.fst ((1 : Int)))) (P.len y.snd)) (P.cond (P.and (P.ieq (P.get y.snd y.fst ((0 : Int), (0 : Int))).fst (P.get y.snd (P.wrap IntKind.i64 (P.sub y.fst ((1 : Int)))) ((0 : Int), (0 : Int))).fst) (P.ieq (P.get y.snd y.fst ((0 : Int), (0 : Int))).snd (P.get y.snd (P.wrap IntKind.i64 (P.sub y.fst ((1 : Int)))) ((0 : Int), (0 : Int))).snd)) (P.cond (P.cut y.fst (P.len y.snd) (P.len y.snd)) (P.bind (P.iter k (fun (y_1 : Int × Int × List (Int × Int)) => P.cond (P.ilt y_1.snd.fst (P.sub (P.len y.snd) y.fst)) (P.cond (P.inb y_1.snd.fst (P.sub (P.len y.snd) y.fst)) (P.cond (P.inb (P.wrap IntKind.i64 (P.sub y_1.snd.fst ((1 : Int)))) (P.sub (P.len y.snd) y.fst)) (P.cond (P.not (P.and (P.ieq (P.get y_1.snd.snd (P.add y.fst y_1.snd.fst) ((0 : Int), (0 : Int))).fst (P.get y_1.snd.snd (P.add y.fst (P.wrap IntKind.i64 (P.sub y_1.snd.fst ((1 : Int))))) ((0 : Int), (0 : Int))).fst) (P.ieq (P.get y_1.snd.snd (P.add y.fst y_1.snd.fst) ((0 : Int), (0 : Int))).snd (P.get y_1.snd.snd (P.add y.fst (P.wrap IntKind.i64 (P.sub y_1.snd.fst ((1 : Int))))) ((0 : Int), (0 : Int))).snd))) (P.cond (P.inb y_1.snd.fst (P.sub (P.len y.snd) y.fst)) (P.cond (P.inb y_1.fst (P.len y_1.snd.snd)) (some (Sum.inl (P.wrap IntKind.i64 (P.add y_1.fst ((1 : Int))), P.wrap IntKind.i64 (P.add y_1.snd.fst ((1 : Int))), P.set y_1.snd.snd y_1.fst (P.get y_1.snd.snd (P.add y.fst y_1.snd.fst) ((0 : Int), (0 : Int)))))) none) none) (some (Sum.inl (y_1.fst, P.wrap IntKind.i64 (P.add y_1.snd.fst ((1 : Int))), y_1.snd.snd)))) none) none) (some (Sum.inr (Sum.inl (y_1.fst, y_1.snd.snd))))) (y.fst, (1 : Int), y.snd)) (P.either (fun (z : Int × List (Int × Int)) => P.cond (P.cut z.fst (P.len z.snd) (P.len z.snd)) (P.cond (P.cut ((0 : Int)) z.fst (P.len (P.fill z.snd z.fst (P.sub (P.len z.snd) z.fst) ((0 : Int), (0 : Int))))) (some (Sum.inr (Sum.inr (P.sub_ (P.fill z.snd z.fst (P.sub (P.len z.snd) z.fst) ((0 : Int), (0 : Int))) ((0 : Int)) z.fst)))) none) none) fun (r : Int × List (Int × Int) ⊕ List (Int × Int) ⊕ List (Int × Int)) => some r)) none) (some (Sum.inl (P.wrap IntKind.i64 (P.add y.fst ((1 : Int))), y.snd)))) none) none) (some (Sum.inr (Sum.inl y.snd)))) ((1 : Int), ys)) (P.either (fun (z : List (Int × Int)) => some z) fun (r : List (Int × Int)) => some r))) none) none) fun (r : List (Int × Int)) => some r))) fun (r : List (Int × Int)) => some r)) none))
theorem atoms_Norm_eq (k : Nat) (x : (Ty.D (.slice T_api_Atom))) : evFn (EN k [(48, ⟨T_api_Atom, .bool, atoms_Norm_1 k⟩), (51, ⟨(.pair T_api_Atom T_api_Atom), (.int .i64), atoms_Compare k⟩)]) 6 Try.f31 [] (.slice T_api_Atom) (.slice T_api_Atom) x = atoms_Norm k x := by kernel_rfl
theorem atoms_Norm_spec (k : Nat) : SpecOk Try.prog GG 31 ⟨(.slice T_api_Atom), (.slice T_api_Atom), atoms_Norm k⟩ :=
  fn_spec (envOk (E := EN k [(48, ⟨T_api_Atom, .bool, atoms_Norm_1 k⟩), (51, ⟨(.pair T_api_Atom T_api_Atom), (.int .i64), atoms_Compare k⟩)]) tabOk (.cons (atoms_Norm_1_spec k) f48_at f48_ok <| .cons (atoms_Compare_spec k) f51_at f51_ok <| .nil) codesOk mixedOk (fun _ _ _ _ => trivial) (hi := inplOk) (hmp := mapsOk)) f31_at (fun x => (atoms_Norm_eq k x).symm)
theorem atoms_Norm_eqO (k : Nat) (x : (Ty.D (.slice T_api_Atom))) : evFnO (EN k [(48, ⟨T_api_Atom, .bool, atoms_Norm_1 k⟩), (51, ⟨(.pair T_api_Atom T_api_Atom), (.int .i64), atoms_Compare k⟩)]) 6 Try.f31 [] (.slice T_api_Atom) T_api_Atom x = atoms_Norm k x := by kernel_rfl
theorem atoms_Norm_ospec (k : Nat) : OSpecOk Try.prog GG 31 ⟨(.slice T_api_Atom), T_api_Atom, atoms_Norm k⟩ :=
  fn_ospec (envOk (E := EN k [(48, ⟨T_api_Atom, .bool, atoms_Norm_1 k⟩), (51, ⟨(.pair T_api_Atom T_api_Atom), (.int .i64), atoms_Compare k⟩)]) tabOk (.cons (atoms_Norm_1_spec k) f48_at f48_ok <| .cons (atoms_Compare_spec k) f51_at f51_ok <| .nil) codesOk mixedOk (fun _ _ _ _ => trivial) (hi := inplOk) (hmp := mapsOk)) f31_at (fun x => (atoms_Norm_eqO k x).symm)
noncomputable def slices_Concat_api_Atom_api_Atom : (k : Nat) → (Ty.D (.slice (.slice T_api_Atom))) → Option (Ty.D (.slice T_api_Atom)) := fun (k : Nat) (x : T_api_Atom.slice.slice.D) => P.bind (P.iter k (fun (y : Int × Int) => P.cond (P.ilt y.snd (P.len x)) (P.cond (P.inb y.snd (P.len x)) (P.cond (P.ilt (P.wrap IntKind.i64 (P.add y.fst (P.len (P.get x y.snd [])))) ((0 : Int))) none (some (Sum.inl (P.wrap IntKind.i64 (P.add y.fst (P.len (P.get x y.snd []))), P.wrap IntKind.i64 (P.add y.snd ((1 : Int))))))) none) (some (Sum.inr (Sum.inl y.fst)))) ((0 : Int), (0 : Int))) (P.either (fun (z : Int) => P.cond (P.ilt z ((0 : Int))) none (P.cond (P.ilt ((0 : Int)) (P.wrap IntKind.i64 (P.sub z (P.wrap IntKind.i64 (P.sub ((0 : Int)) ((0 : Int))))))) (P.cond (P.cut ((0 : Int)) ((0 : Int)) ((0 : Int))) (P.cond (P.ilt ((0 : Int)) (P.wrap IntKind.i64 (P.sub z (P.wrap IntKind.i64 (P.sub ((0 : Int)) ((0 : Int))))))) (P.cond (P.room (P.wrap IntKind.i64 (P.sub z (P.wrap IntKind.i64 (P.sub ((0 : Int)) ((0 : Int)))))) 16) (P.cond (P.cut ((0 : Int)) ((0 : Int)) (P.len (P.rep (P.wrap IntKind.i64 (P.sub z (P.wrap IntKind.i64 (P.sub ((0 : Int)) ((0 : Int)))))) ((0 : Int), (0 : Int))))) (P.bind (P.iter k (fun (y : List (Int × Int) × Int) => P.cond (P.ilt y.snd (P.len x)) (P.cond (P.inb y.snd (P.len x)) (P.cond (P.room (P.add (P.len y.fst) (P.len (P.get x y.snd []))) 16) (some (Sum.inl (P.app y.fst (P.get x y.snd []), P.wrap IntKind.i64 (P.add y.snd ((1 : Int)))))) none) none) (some (Sum.inr (Sum.inl y.fst)))) (P.sub_ (P.rep (P.wrap IntKind.i64 (P.sub z (P.wrap IntKind.i64 (P.sub ((0 : Int)) ((0 : Int)))))) ((0 : Int), (0 : Int))) ((0 : Int)) ((0 : Int)), (0 : Int))) (P.either (fun (z : List (Int × Int)) => some z) fun (r : List (Int × Int)) => some r)) none) none) none) none) (P.bind (P.iter k (fun (y : List (Int × Int) × Int) => P.cond (P.ilt y.snd (P.len x)) (P.cond (P.inb y.snd (P.len x)) (P.cond (P.room (P.add (P.len y.fst) (P.len (P.get x y.snd []))) 16) (some (Sum.inl (P.app y.fst (P.get x y.snd []), P.wrap IntKind.i64 (P.add y.snd ((1 : Int)))))) none) none) (some (Sum.inr (Sum.inl y.fst)))) ([], (0 : Int))) (P.either (fun (z : List (Int × Int)) => some z) fun (r : List (Int × Int)) => some r)))) fun (r : List (Int × Int)) => some r)
theorem slices_Concat_api_Atom_api_Atom_eq (k : Nat) (x : (Ty.D (.slice (.slice T_api_Atom)))) : evFn (EN k []) 6 Try.f35 [(3, ⟨[.var 3 (.d (.int .i64)), .var 11 (.d (.int .i64))], [], (some (0, [.var 3 (.d (.int .i64))]))⟩), (11, ⟨[.var 6 (.o (.st (.pair (.int .i64) (.int .i64)))), .var 27 (.d (.int .i64))], [], (some (2, [.var 6 (.o (.st (.pair (.int .i64) (.int .i64))))]))⟩)] (.slice (.slice T_api_Atom)) (.slice T_api_Atom) x = slices_Concat_api_Atom_api_Atom k x := by kernel_rfl
theorem slices_Concat_api_Atom_api_Atom_spec (k : Nat) : SpecOk Try.prog GG 35 ⟨(.slice (.slice T_api_Atom)), (.slice T_api_Atom), slices_Concat_api_Atom_api_Atom k⟩ :=
  fn_spec (envOk (E := EN k []) tabOk (.nil) codesOk mixedOk (fun _ _ _ _ => trivial) (hi := inplOk) (hmp := mapsOk)) f35_at (fun x => (slices_Concat_api_Atom_api_Atom_eq k x).symm)
noncomputable def ref08_Small : (k : Nat) → (Ty.D T_api_State) → Option (Ty.D .bool) := fun (k : Nat) (x : T_api_State.D) => P.cond (P.ilt ((40 : Int)) (P.len x.snd.fst)) (some false) (P.cond (P.ilt ((40 : Int)) (P.len x.snd.snd)) (some false) (P.bind (P.iter k (fun (y : Int) => P.cond (P.ilt y (P.len x.snd.fst)) (P.cond (P.inb y (P.len x.snd.fst)) (P.cond (P.ilt ((40 : Int)) (P.len (P.get x.snd.fst y ((ByteArray.mk #[]), [])).snd)) (some (Sum.inr (Sum.inr false))) (some (Sum.inl (P.wrap IntKind.i64 (P.add y ((1 : Int))))))) none) (some (Sum.inr (Sum.inl PUnit.unit)))) ((0 : Int))) (P.either (fun (z : PUnit) => P.bind (P.iter k (fun (y : Int) => P.cond (P.ilt y (P.len x.snd.snd)) (P.cond (P.inb y (P.len x.snd.snd)) (P.cond (P.ilt ((40 : Int)) (P.len (P.get x.snd.snd y (((0 : Int), (0 : Int)), [], [])).snd.fst)) (some (Sum.inr (Sum.inr false))) (P.cond (P.inb y (P.len x.snd.snd)) (P.cond (P.ilt ((40 : Int)) (P.len (P.get x.snd.snd y (((0 : Int), (0 : Int)), [], [])).snd.snd)) (some (Sum.inr (Sum.inr false))) (P.bind (P.iter k (fun (y_1 : Int) => P.cond (P.inb y (P.len x.snd.snd)) (P.cond (P.ilt y_1 (P.len (P.get x.snd.snd y (((0 : Int), (0 : Int)), [], [])).snd.fst)) (P.cond (P.inb y (P.len x.snd.snd)) (P.cond (P.inb y_1 (P.len (P.get x.snd.snd y (((0 : Int), (0 : Int)), [], [])).snd.fst)) (P.cond (P.ilt ((40 : Int)) (P.len (P.get (P.get x.snd.snd y (((0 : Int), (0 : Int)), [], [])).snd.fst y_1 ((ByteArray.mk #[]), false, [])).snd.snd)) (some (Sum.inr (Sum.inr (Sum.inr (Sum.inr false))))) (some (Sum.inl (P.wrap IntKind.i64 (P.add y_1 ((1 : Int))))))) none) none) (some (Sum.inr (Sum.inl PUnit.unit)))) none) ((0 : Int))) (P.either (fun (z : PUnit) => some (Sum.inl (P.wrap IntKind.i64 (P.add y ((1 : Int)))))) fun (r : Int ⊕ PUnit ⊕ Bool) => some r))) none)) none) (some (Sum.inr (Sum.inl PUnit.unit)))) ((0 : Int))) (P.either (fun (z : PUnit) => some true) fun (r : Bool) => some r)) fun (r : Bool) => some r)))
theorem ref08_Small_eq (k : Nat) (x : (Ty.D T_api_State)) : evFn (EN k []) 6 Try.f8 [(4, ⟨[.var 3 (.d (.int .i64))], [], (some (0, []))⟩), (9, ⟨[.var 4 (.d (.int .i64))], [], (some (2, []))⟩), (14, ⟨[.var 5 (.d (.int .i64))], [], (some (4, []))⟩)] T_api_State .bool x = ref08_Small k x := by kernel_rfl
theorem ref08_Small_spec (k : Nat) : SpecOk Try.prog GG 8 ⟨T_api_State, .bool, ref08_Small k⟩ :=
  fn_spec (envOk (E := EN k []) tabOk (.nil) codesOk mixedOk (fun _ _ _ _ => trivial) (hi := inplOk) (hmp := mapsOk)) f8_at (fun x => (ref08_Small_eq k x).symm)
noncomputable def ref06_Same : (k : Nat) → (Ty.D (.pair (.slice T_api_Atom) (.slice T_api_Atom))) → Option (Ty.D .bool) := fun (k : Nat) (x : (T_api_Atom.slice.pair T_api_Atom.slice).D) => P.cond (P.not (P.ieq (P.len x.fst) (P.len x.snd))) (some false) (P.bind (P.iter k (fun (y : Int) => P.cond (P.ilt y (P.len x.fst)) (P.cond (P.inb y (P.len x.fst)) (P.cond (P.inb y (P.len x.snd)) (P.cond (P.not (P.and (P.ieq (P.get x.fst y ((0 : Int), (0 : Int))).fst (P.get x.snd y ((0 : Int), (0 : Int))).fst) (P.ieq (P.get x.fst y ((0 : Int), (0 : Int))).snd (P.get x.snd y ((0 : Int), (0 : Int))).snd))) (some (Sum.inr (Sum.inr false))) (some (Sum.inl (P.wrap IntKind.i64 (P.add y ((1 : Int))))))) none) none) (some (Sum.inr (Sum.inl PUnit.unit)))) ((0 : Int))) (P.either (fun (z : PUnit) => some true) fun (r : Bool) => some r))
theorem ref06_Same_eq (k : Nat) (x : (Ty.D (.pair (.slice T_api_Atom) (.slice T_api_Atom)))) : evFn (EN k []) 6 Try.f10 [(4, ⟨[.var 5 (.d (.int .i64))], [], (some (0, []))⟩)] (.pair (.slice T_api_Atom) (.slice T_api_Atom)) .bool x = ref06_Same k x := by kernel_rfl
theorem ref06_Same_spec (k : Nat) : SpecOk Try.prog GG 10 ⟨(.pair (.slice T_api_Atom) (.slice T_api_Atom)), .bool, ref06_Same k⟩ :=
  fn_spec (envOk (E := EN k []) tabOk (.nil) codesOk mixedOk (fun _ _ _ _ => trivial) (hi := inplOk) (hmp := mapsOk)) f10_at (fun x => (ref06_Same_eq k x).symm)
noncomputable def lookup_Reach : (k : Nat) → (Ty.D (.pair T_api_State (.pair (.slice T_api_Atom) .str))) → Option (Ty.D (.slice T_api_Atom)) := fun (k : Nat) (x : (T_api_State.pair (T_api_Atom.slice.pair Ty.str)).D) => P.bind (atoms_Norm k x.snd.fst) fun (r : List (Int × Int)) => P.bind (P.iter k (fun (y : List (Int × Int) × List (Int × Int) × List ((Int × Int) × Bool)) => P.cond (P.ilt ((0 : Int)) (P.len y.fst)) (P.cond (P.inb ((0 : Int)) (P.len y.fst)) (P.cond (P.cut ((1 : Int)) (P.len y.fst) (P.len y.fst)) (P.cond (P.mval (fun (x y : Int × Int) => P.and (P.ieq x.fst y.fst) (P.ieq x.snd y.snd)) y.snd.snd (P.get y.fst ((0 : Int)) ((0 : Int), (0 : Int))) false) (some (Sum.inl (P.sub_ y.fst ((1 : Int)) (P.add ((1 : Int)) (P.sub (P.len y.fst) ((1 : Int)))), y.snd.fst, y.snd.snd))) (P.bind (state_Loc k (x.fst, P.get y.fst ((0 : Int)) ((0 : Int), (0 : Int)))) fun (r : (List (ByteArray × Bool × List (Int × Int)) × List (Int × Int)) × Bool) => P.bind (object_Get k (r.fst, x.snd.snd)) fun (r_1 : (ByteArray × Bool × List (Int × Int)) × Bool) => P.cond (P.room (P.add (P.len y.snd.fst) (P.len [P.get y.fst ((0 : Int)) ((0 : Int), (0 : Int))])) 16) (P.bind (lookup_place k (P.get y.fst ((0 : Int)) ((0 : Int), (0 : Int)))) fun (r_2 : Bool) => P.cond r_2 (P.cond r.snd (P.cond (P.not r_1.fst.snd.fst) (P.bind (atoms_Norm k r.fst.snd) fun (r : List (Int × Int)) => P.cond (P.room (P.add (P.len (P.sub_ y.fst ((1 : Int)) (P.add ((1 : Int)) (P.sub (P.len y.fst) ((1 : Int)))))) (P.len r)) 16) (some (Sum.inl (P.app (P.sub_ y.fst ((1 : Int)) (P.add ((1 : Int)) (P.sub (P.len y.fst) ((1 : Int))))) r, P.app y.snd.fst [P.get y.fst ((0 : Int)) ((0 : Int), (0 : Int))], P.mput (fun (x y : Int × Int) => P.and (P.ieq x.fst y.fst) (P.ieq x.snd y.snd)) y.snd.snd (P.get y.fst ((0 : Int)) ((0 : Int), (0 : Int))) true))) none) (some (Sum.inl (P.sub_ y.fst ((1 : Int)) (P.add ((1 : Int)) (P.sub (P.len y.fst) ((1 : Int)))), P.app y.snd.fst [P.get y.fst ((0 : Int)) ((0 : Int), (0 : Int))], P.mput (fun (x y : Int × Int) => P.and (P.ieq x.fst y.fst) (P.ieq x.snd y.snd)) y.snd.snd (P.get y.fst ((0 : Int)) ((0 : Int), (0 : Int))) true)))) (some (Sum.inl (P.sub_ y.fst ((1 : Int)) (P.add ((1 : Int)) (P.sub (P.len y.fst) ((1 : Int)))), P.app y.snd.fst [P.get y.fst ((0 : Int)) ((0 : Int), (0 : Int))], P.mput (fun (x y : Int × Int) => P.and (P.ieq x.fst y.fst) (P.ieq x.snd y.snd)) y.snd.snd (P.get y.fst ((0 : Int)) ((0 : Int), (0 : Int))) true)))) (some (Sum.inl (P.sub_ y.fst ((1 : Int)) (P.add ((1 : Int)) (P.sub (P.len y.fst) ((1 : Int)))), P.app y.snd.fst [P.get y.fst ((0 : Int)) ((0 : Int), (0 : Int))], P.mput (fun (x y : Int × Int) => P.and (P.ieq x.fst y.fst) (P.ieq x.snd y.snd)) y.snd.snd (P.get y.fst ((0 : Int)) ((0 : Int), (0 : Int))) true)))) none)) none) none) (some (Sum.inr (Sum.inl (y.snd.fst, y.snd.snd))))) (r, [], [])) (P.either (fun (z : List (Int × Int) × List ((Int × Int) × Bool)) => P.bind (atoms_Norm k z.fst) fun (r : List (Int × Int)) => some r) fun (r : List (Int × Int)) => some r)
noncomputable abbrev EN11 (k : Nat) (sp : List (Nat × Go.PG.Spec)) : Go.PG.Env := { T := T, specs := sp, codes := codesR, k := k, inpl := [(50, ⟨T_api_Atom, 51, sortF⟩)], calm := [57, 31, 0], maps := [(74, T_api_Atom, .bool)], ospecs := [(31, ⟨(.slice T_api_Atom), T_api_Atom, atoms_Norm k⟩)] }
theorem lookup_Reach_eq (k : Nat) (x : (Ty.D (.pair T_api_State (.pair (.slice T_api_Atom) .str)))) : evFn (EN11 k [(34, ⟨T_api_Atom, .bool, lookup_place k⟩), (44, ⟨(.pair T_api_State T_api_Atom), (.pair T_api_Shape .bool), state_Loc k⟩), (45, ⟨(.pair T_api_Shape .str), (.pair T_api_Field .bool), object_Get k⟩), (47, ⟨(.slice T_api_Atom), (.slice T_api_Atom), slices_Clone_api_Atom_api_Atom k⟩)]) 6 Try.f11 [] (.pair T_api_State (.pair (.slice T_api_Atom) .str)) (.slice T_api_Atom) x = lookup_Reach k x := by kernel_rfl
theorem lookup_Reach_spec (k : Nat) : SpecOk Try.prog GG 11 ⟨(.pair T_api_State (.pair (.slice T_api_Atom) .str)), (.slice T_api_Atom), lookup_Reach k⟩ :=
  fn_spec (envOk (E := EN11 k [(34, ⟨T_api_Atom, .bool, lookup_place k⟩), (44, ⟨(.pair T_api_State T_api_Atom), (.pair T_api_Shape .bool), state_Loc k⟩), (45, ⟨(.pair T_api_Shape .str), (.pair T_api_Field .bool), object_Get k⟩), (47, ⟨(.slice T_api_Atom), (.slice T_api_Atom), slices_Clone_api_Atom_api_Atom k⟩)]) tabOk (.cons (lookup_place_spec k) f34_at f34_ok <| .cons (state_Loc_spec k) f44_at f44_ok <| .cons (object_Get_spec k) f45_at f45_ok <| .cons (slices_Clone_api_Atom_api_Atom_spec k) f47_at f47_ok <| .nil) codesROk mixedOk (fun _ _ _ _ => trivial) (hi := inplOk) (hmp := mapsOk) (ho := .cons (atoms_Norm_ospec k) f31_at f31_ok <| .nil)) f11_at (fun x => (lookup_Reach_eq k x).symm)
noncomputable def lookup_Find : (k : Nat) → (Ty.D (.pair T_api_State (.pair (.slice T_api_Atom) .str))) → Option (Ty.D T_api_Found) := fun (k : Nat) (x : (T_api_State.pair (T_api_Atom.slice.pair Ty.str)).D) => P.bind (atoms_Norm k x.snd.fst) fun (r : List (Int × Int)) => P.bind (P.iter k (fun (y : List (Int × Int) × (List (Int × Int) × Bool × Bool × Bool) × List ((Int × Int) × Bool)) => P.cond (P.ilt ((0 : Int)) (P.len y.fst)) (P.cond (P.inb ((0 : Int)) (P.len y.fst)) (P.cond (P.cut ((1 : Int)) (P.len y.fst) (P.len y.fst)) (P.cond (P.mval (fun (x y : Int × Int) => P.and (P.ieq x.fst y.fst) (P.ieq x.snd y.snd)) y.snd.snd (P.get y.fst ((0 : Int)) ((0 : Int), (0 : Int))) false) (some (Sum.inl (P.sub_ y.fst ((1 : Int)) (P.add ((1 : Int)) (P.sub (P.len y.fst) ((1 : Int)))), y.snd.fst, y.snd.snd))) (P.bind (state_Loc k (x.fst, P.get y.fst ((0 : Int)) ((0 : Int), (0 : Int)))) fun (r : (List (ByteArray × Bool × List (Int × Int)) × List (Int × Int)) × Bool) => P.bind (object_Get k (r.fst, x.snd.snd)) fun (r_1 : (ByteArray × Bool × List (Int × Int)) × Bool) => P.cond y.snd.fst.snd.fst (P.cond y.snd.fst.snd.snd.fst (P.bind (lookup_place k (P.get y.fst ((0 : Int)) ((0 : Int), (0 : Int)))) fun (r_2 : Bool) => P.cond r_1.snd (P.bind (lookup_place k (P.get y.fst ((0 : Int)) ((0 : Int), (0 : Int)))) fun (r_3 : Bool) => P.cond r_3 (P.bind (slices_Concat_api_Atom_api_Atom k [y.snd.fst.fst, r_1.fst.snd.snd]) fun (r_4 : List (Int × Int)) => P.bind (lookup_place k (P.get y.fst ((0 : Int)) ((0 : Int), (0 : Int)))) fun (r_5 : Bool) => P.cond r_5 (P.cond r.snd (P.cond (P.not r_1.fst.snd.fst) (P.bind (atoms_Norm k r.fst.snd) fun (r : List (Int × Int)) => P.cond (P.room (P.add (P.len (P.sub_ y.fst ((1 : Int)) (P.add ((1 : Int)) (P.sub (P.len y.fst) ((1 : Int)))))) (P.len r)) 16) (some (Sum.inl (P.app (P.sub_ y.fst ((1 : Int)) (P.add ((1 : Int)) (P.sub (P.len y.fst) ((1 : Int))))) r, (r_4, true, r_2, true), P.mput (fun (x y : Int × Int) => P.and (P.ieq x.fst y.fst) (P.ieq x.snd y.snd)) y.snd.snd (P.get y.fst ((0 : Int)) ((0 : Int), (0 : Int))) true))) none) (some (Sum.inl (P.sub_ y.fst ((1 : Int)) (P.add ((1 : Int)) (P.sub (P.len y.fst) ((1 : Int)))), (r_4, true, r_2, true), P.mput (fun (x y : Int × Int) => P.and (P.ieq x.fst y.fst) (P.ieq x.snd y.snd)) y.snd.snd (P.get y.fst ((0 : Int)) ((0 : Int), (0 : Int))) true)))) (some (Sum.inl (P.sub_ y.fst ((1 : Int)) (P.add ((1 : Int)) (P.sub (P.len y.fst) ((1 : Int)))), (r_4, true, r_2, true), P.mput (fun (x y : Int × Int) => P.and (P.ieq x.fst y.fst) (P.ieq x.snd y.snd)) y.snd.snd (P.get y.fst ((0 : Int)) ((0 : Int), (0 : Int))) true)))) (some (Sum.inl (P.sub_ y.fst ((1 : Int)) (P.add ((1 : Int)) (P.sub (P.len y.fst) ((1 : Int)))), (r_4, true, r_2, true), P.mput (fun (x y : Int × Int) => P.and (P.ieq x.fst y.fst) (P.ieq x.snd y.snd)) y.snd.snd (P.get y.fst ((0 : Int)) ((0 : Int), (0 : Int))) true)))) (P.bind (lookup_place k (P.get y.fst ((0 : Int)) ((0 : Int), (0 : Int)))) fun (r_4 : Bool) => P.cond r_4 (P.cond r.snd (P.cond (P.not r_1.fst.snd.fst) (P.bind (atoms_Norm k r.fst.snd) fun (r : List (Int × Int)) => P.cond (P.room (P.add (P.len (P.sub_ y.fst ((1 : Int)) (P.add ((1 : Int)) (P.sub (P.len y.fst) ((1 : Int)))))) (P.len r)) 16) (some (Sum.inl (P.app (P.sub_ y.fst ((1 : Int)) (P.add ((1 : Int)) (P.sub (P.len y.fst) ((1 : Int))))) r, (y.snd.fst.fst, true, r_2, y.snd.fst.snd.snd.snd), P.mput (fun (x y : Int × Int) => P.and (P.ieq x.fst y.fst) (P.ieq x.snd y.snd)) y.snd.snd (P.get y.fst ((0 : Int)) ((0 : Int), (0 : Int))) true))) none) (some (Sum.inl (P.sub_ y.fst ((1 : Int)) (P.add ((1 : Int)) (P.sub (P.len y.fst) ((1 : Int)))), (y.snd.fst.fst, true, r_2, y.snd.fst.snd.snd.snd), P.mput (fun (x y : Int × Int) => P.and (P.ieq x.fst y.fst) (P.ieq x.snd y.snd)) y.snd.snd (P.get y.fst ((0 : Int)) ((0 : Int), (0 : Int))) true)))) (some (Sum.inl (P.sub_ y.fst ((1 : Int)) (P.add ((1 : Int)) (P.sub (P.len y.fst) ((1 : Int)))), (y.snd.fst.fst, true, r_2, y.snd.fst.snd.snd.snd), P.mput (fun (x y : Int × Int) => P.and (P.ieq x.fst y.fst) (P.ieq x.snd y.snd)) y.snd.snd (P.get y.fst ((0 : Int)) ((0 : Int), (0 : Int))) true)))) (some (Sum.inl (P.sub_ y.fst ((1 : Int)) (P.add ((1 : Int)) (P.sub (P.len y.fst) ((1 : Int)))), (y.snd.fst.fst, true, r_2, y.snd.fst.snd.snd.snd), P.mput (fun (x y : Int × Int) => P.and (P.ieq x.fst y.fst) (P.ieq x.snd y.snd)) y.snd.snd (P.get y.fst ((0 : Int)) ((0 : Int), (0 : Int))) true))))) (P.bind (lookup_place k (P.get y.fst ((0 : Int)) ((0 : Int), (0 : Int)))) fun (r_3 : Bool) => P.cond r_3 (P.cond r.snd (P.cond (P.not r_1.fst.snd.fst) (P.bind (atoms_Norm k r.fst.snd) fun (r : List (Int × Int)) => P.cond (P.room (P.add (P.len (P.sub_ y.fst ((1 : Int)) (P.add ((1 : Int)) (P.sub (P.len y.fst) ((1 : Int)))))) (P.len r)) 16) (some (Sum.inl (P.app (P.sub_ y.fst ((1 : Int)) (P.add ((1 : Int)) (P.sub (P.len y.fst) ((1 : Int))))) r, (y.snd.fst.fst, true, r_2, y.snd.fst.snd.snd.snd), P.mput (fun (x y : Int × Int) => P.and (P.ieq x.fst y.fst) (P.ieq x.snd y.snd)) y.snd.snd (P.get y.fst ((0 : Int)) ((0 : Int), (0 : Int))) true))) none) (some (Sum.inl (P.sub_ y.fst ((1 : Int)) (P.add ((1 : Int)) (P.sub (P.len y.fst) ((1 : Int)))), (y.snd.fst.fst, true, r_2, y.snd.fst.snd.snd.snd), P.mput (fun (x y : Int × Int) => P.and (P.ieq x.fst y.fst) (P.ieq x.snd y.snd)) y.snd.snd (P.get y.fst ((0 : Int)) ((0 : Int), (0 : Int))) true)))) (some (Sum.inl (P.sub_ y.fst ((1 : Int)) (P.add ((1 : Int)) (P.sub (P.len y.fst) ((1 : Int)))), (y.snd.fst.fst, true, r_2, y.snd.fst.snd.snd.snd), P.mput (fun (x y : Int × Int) => P.and (P.ieq x.fst y.fst) (P.ieq x.snd y.snd)) y.snd.snd (P.get y.fst ((0 : Int)) ((0 : Int), (0 : Int))) true)))) (some (Sum.inl (P.sub_ y.fst ((1 : Int)) (P.add ((1 : Int)) (P.sub (P.len y.fst) ((1 : Int)))), (y.snd.fst.fst, true, r_2, y.snd.fst.snd.snd.snd), P.mput (fun (x y : Int × Int) => P.and (P.ieq x.fst y.fst) (P.ieq x.snd y.snd)) y.snd.snd (P.get y.fst ((0 : Int)) ((0 : Int), (0 : Int))) true))))) (P.cond r_1.snd (P.bind (lookup_place k (P.get y.fst ((0 : Int)) ((0 : Int), (0 : Int)))) fun (r_2 : Bool) => P.cond r_2 (P.bind (slices_Concat_api_Atom_api_Atom k [y.snd.fst.fst, r_1.fst.snd.snd]) fun (r_3 : List (Int × Int)) => P.bind (lookup_place k (P.get y.fst ((0 : Int)) ((0 : Int), (0 : Int)))) fun (r_4 : Bool) => P.cond r_4 (P.cond r.snd (P.cond (P.not r_1.fst.snd.fst) (P.bind (atoms_Norm k r.fst.snd) fun (r : List (Int × Int)) => P.cond (P.room (P.add (P.len (P.sub_ y.fst ((1 : Int)) (P.add ((1 : Int)) (P.sub (P.len y.fst) ((1 : Int)))))) (P.len r)) 16) (some (Sum.inl (P.app (P.sub_ y.fst ((1 : Int)) (P.add ((1 : Int)) (P.sub (P.len y.fst) ((1 : Int))))) r, (r_3, true, false, true), P.mput (fun (x y : Int × Int) => P.and (P.ieq x.fst y.fst) (P.ieq x.snd y.snd)) y.snd.snd (P.get y.fst ((0 : Int)) ((0 : Int), (0 : Int))) true))) none) (some (Sum.inl (P.sub_ y.fst ((1 : Int)) (P.add ((1 : Int)) (P.sub (P.len y.fst) ((1 : Int)))), (r_3, true, false, true), P.mput (fun (x y : Int × Int) => P.and (P.ieq x.fst y.fst) (P.ieq x.snd y.snd)) y.snd.snd (P.get y.fst ((0 : Int)) ((0 : Int), (0 : Int))) true)))) (some (Sum.inl (P.sub_ y.fst ((1 : Int)) (P.add ((1 : Int)) (P.sub (P.len y.fst) ((1 : Int)))), (r_3, true, false, true), P.mput (fun (x y : Int × Int) => P.and (P.ieq x.fst y.fst) (P.ieq x.snd y.snd)) y.snd.snd (P.get y.fst ((0 : Int)) ((0 : Int), (0 : Int))) true)))) (some (Sum.inl (P.sub_ y.fst ((1 : Int)) (P.add ((1 : Int)) (P.sub (P.len y.fst) ((1 : Int)))), (r_3, true, false, true), P.mput (fun (x y : Int × Int) => P.and (P.ieq x.fst y.fst) (P.ieq x.snd y.snd)) y.snd.snd (P.get y.fst ((0 : Int)) ((0 : Int), (0 : Int))) true)))) (P.bind (lookup_place k (P.get y.fst ((0 : Int)) ((0 : Int), (0 : Int)))) fun (r_3 : Bool) => P.cond r_3 (P.cond r.snd (P.cond (P.not r_1.fst.snd.fst) (P.bind (atoms_Norm k r.fst.snd) fun (r : List (Int × Int)) => P.cond (P.room (P.add (P.len (P.sub_ y.fst ((1 : Int)) (P.add ((1 : Int)) (P.sub (P.len y.fst) ((1 : Int)))))) (P.len r)) 16) (some (Sum.inl (P.app (P.sub_ y.fst ((1 : Int)) (P.add ((1 : Int)) (P.sub (P.len y.fst) ((1 : Int))))) r, (y.snd.fst.fst, true, false, y.snd.fst.snd.snd.snd), P.mput (fun (x y : Int × Int) => P.and (P.ieq x.fst y.fst) (P.ieq x.snd y.snd)) y.snd.snd (P.get y.fst ((0 : Int)) ((0 : Int), (0 : Int))) true))) none) (some (Sum.inl (P.sub_ y.fst ((1 : Int)) (P.add ((1 : Int)) (P.sub (P.len y.fst) ((1 : Int)))), (y.snd.fst.fst, true, false, y.snd.fst.snd.snd.snd), P.mput (fun (x y : Int × Int) => P.and (P.ieq x.fst y.fst) (P.ieq x.snd y.snd)) y.snd.snd (P.get y.fst ((0 : Int)) ((0 : Int), (0 : Int))) true)))) (some (Sum.inl (P.sub_ y.fst ((1 : Int)) (P.add ((1 : Int)) (P.sub (P.len y.fst) ((1 : Int)))), (y.snd.fst.fst, true, false, y.snd.fst.snd.snd.snd), P.mput (fun (x y : Int × Int) => P.and (P.ieq x.fst y.fst) (P.ieq x.snd y.snd)) y.snd.snd (P.get y.fst ((0 : Int)) ((0 : Int), (0 : Int))) true)))) (some (Sum.inl (P.sub_ y.fst ((1 : Int)) (P.add ((1 : Int)) (P.sub (P.len y.fst) ((1 : Int)))), (y.snd.fst.fst, true, false, y.snd.fst.snd.snd.snd), P.mput (fun (x y : Int × Int) => P.and (P.ieq x.fst y.fst) (P.ieq x.snd y.snd)) y.snd.snd (P.get y.fst ((0 : Int)) ((0 : Int), (0 : Int))) true))))) (P.bind (lookup_place k (P.get y.fst ((0 : Int)) ((0 : Int), (0 : Int)))) fun (r_2 : Bool) => P.cond r_2 (P.cond r.snd (P.cond (P.not r_1.fst.snd.fst) (P.bind (atoms_Norm k r.fst.snd) fun (r : List (Int × Int)) => P.cond (P.room (P.add (P.len (P.sub_ y.fst ((1 : Int)) (P.add ((1 : Int)) (P.sub (P.len y.fst) ((1 : Int)))))) (P.len r)) 16) (some (Sum.inl (P.app (P.sub_ y.fst ((1 : Int)) (P.add ((1 : Int)) (P.sub (P.len y.fst) ((1 : Int))))) r, (y.snd.fst.fst, true, false, y.snd.fst.snd.snd.snd), P.mput (fun (x y : Int × Int) => P.and (P.ieq x.fst y.fst) (P.ieq x.snd y.snd)) y.snd.snd (P.get y.fst ((0 : Int)) ((0 : Int), (0 : Int))) true))) none) (some (Sum.inl (P.sub_ y.fst ((1 : Int)) (P.add ((1 : Int)) (P.sub (P.len y.fst) ((1 : Int)))), (y.snd.fst.fst, true, false, y.snd.fst.snd.snd.snd), P.mput (fun (x y : Int × Int) => P.and (P.ieq x.fst y.fst) (P.ieq x.snd y.snd)) y.snd.snd (P.get y.fst ((0 : Int)) ((0 : Int), (0 : Int))) true)))) (some (Sum.inl (P.sub_ y.fst ((1 : Int)) (P.add ((1 : Int)) (P.sub (P.len y.fst) ((1 : Int)))), (y.snd.fst.fst, true, false, y.snd.fst.snd.snd.snd), P.mput (fun (x y : Int × Int) => P.and (P.ieq x.fst y.fst) (P.ieq x.snd y.snd)) y.snd.snd (P.get y.fst ((0 : Int)) ((0 : Int), (0 : Int))) true)))) (some (Sum.inl (P.sub_ y.fst ((1 : Int)) (P.add ((1 : Int)) (P.sub (P.len y.fst) ((1 : Int)))), (y.snd.fst.fst, true, false, y.snd.fst.snd.snd.snd), P.mput (fun (x y : Int × Int) => P.and (P.ieq x.fst y.fst) (P.ieq x.snd y.snd)) y.snd.snd (P.get y.fst ((0 : Int)) ((0 : Int), (0 : Int))) true)))))) (P.cond y.snd.fst.snd.snd.fst (P.bind (lookup_place k (P.get y.fst ((0 : Int)) ((0 : Int), (0 : Int)))) fun (r_2 : Bool) => P.cond r_1.snd (P.bind (lookup_place k (P.get y.fst ((0 : Int)) ((0 : Int), (0 : Int)))) fun (r_3 : Bool) => P.cond r_3 (P.bind (slices_Concat_api_Atom_api_Atom k [y.snd.fst.fst, r_1.fst.snd.snd]) fun (r_4 : List (Int × Int)) => P.bind (lookup_place k (P.get y.fst ((0 : Int)) ((0 : Int), (0 : Int)))) fun (r_5 : Bool) => P.cond r_5 (P.cond r.snd (P.cond (P.not r_1.fst.snd.fst) (P.bind (atoms_Norm k r.fst.snd) fun (r : List (Int × Int)) => P.cond (P.room (P.add (P.len (P.sub_ y.fst ((1 : Int)) (P.add ((1 : Int)) (P.sub (P.len y.fst) ((1 : Int)))))) (P.len r)) 16) (some (Sum.inl (P.app (P.sub_ y.fst ((1 : Int)) (P.add ((1 : Int)) (P.sub (P.len y.fst) ((1 : Int))))) r, (r_4, P.ieq (P.get y.fst ((0 : Int)) ((0 : Int), (0 : Int))).fst ((6 : Int)), r_2, true), P.mput (fun (x y : Int × Int) => P.and (P.ieq x.fst y.fst) (P.ieq x.snd y.snd)) y.snd.snd (P.get y.fst ((0 : Int)) ((0 : Int), (0 : Int))) true))) none) (some (Sum.inl (P.sub_ y.fst ((1 : Int)) (P.add ((1 : Int)) (P.sub (P.len y.fst) ((1 : Int)))), (r_4, P.ieq (P.get y.fst ((0 : Int)) ((0 : Int), (0 : Int))).fst ((6 : Int)), r_2, true), P.mput (fun (x y : Int × Int) => P.and (P.ieq x.fst y.fst) (P.ieq x.snd y.snd)) y.snd.snd (P.get y.fst ((0 : Int)) ((0 : Int), (0 : Int))) true)))) (some (Sum.inl (P.sub_ y.fst ((1 : Int)) (P.add ((1 : Int)) (P.sub (P.len y.fst) ((1 : Int)))), (r_4, P.ieq (P.get y.fst ((0 : Int)) ((0 : Int), (0 : Int))).fst ((6 : Int)), r_2, true), P.mput (fun (x y : Int × Int) => P.and (P.ieq x.fst y.fst) (P.ieq x.snd y.snd)) y.snd.snd (P.get y.fst ((0 : Int)) ((0 : Int), (0 : Int))) true)))) (some (Sum.inl (P.sub_ y.fst ((1 : Int)) (P.add ((1 : Int)) (P.sub (P.len y.fst) ((1 : Int)))), (r_4, P.ieq (P.get y.fst ((0 : Int)) ((0 : Int), (0 : Int))).fst ((6 : Int)), r_2, true), P.mput (fun (x y : Int × Int) => P.and (P.ieq x.fst y.fst) (P.ieq x.snd y.snd)) y.snd.snd (P.get y.fst ((0 : Int)) ((0 : Int), (0 : Int))) true)))) (P.bind (lookup_place k (P.get y.fst ((0 : Int)) ((0 : Int), (0 : Int)))) fun (r_4 : Bool) => P.cond r_4 (P.cond r.snd (P.cond (P.not r_1.fst.snd.fst) (P.bind (atoms_Norm k r.fst.snd) fun (r : List (Int × Int)) => P.cond (P.room (P.add (P.len (P.sub_ y.fst ((1 : Int)) (P.add ((1 : Int)) (P.sub (P.len y.fst) ((1 : Int)))))) (P.len r)) 16) (some (Sum.inl (P.app (P.sub_ y.fst ((1 : Int)) (P.add ((1 : Int)) (P.sub (P.len y.fst) ((1 : Int))))) r, (y.snd.fst.fst, P.ieq (P.get y.fst ((0 : Int)) ((0 : Int), (0 : Int))).fst ((6 : Int)), r_2, y.snd.fst.snd.snd.snd), P.mput (fun (x y : Int × Int) => P.and (P.ieq x.fst y.fst) (P.ieq x.snd y.snd)) y.snd.snd (P.get y.fst ((0 : Int)) ((0 : Int), (0 : Int))) true))) none) (some (Sum.inl (P.sub_ y.fst ((1 : Int)) (P.add ((1 : Int)) (P.sub (P.len y.fst) ((1 : Int)))), (y.snd.fst.fst, P.ieq (P.get y.fst ((0 : Int)) ((0 : Int), (0 : Int))).fst ((6 : Int)), r_2, y.snd.fst.snd.snd.snd), P.mput (fun (x y : Int × Int) => P.and (P.ieq x.fst y.fst) (P.ieq x.snd y.snd)) y.snd.snd (P.get y.fst ((0 : Int)) ((0 : Int), (0 : Int))) true)))) (some (Sum.inl (P.sub_ y.fst ((1 : Int)) (P.add ((1 : Int)) (P.sub (P.len y.fst) ((1 : Int)))), (y.snd.fst.fst, P.ieq (P.get y.fst ((0 : Int)) ((0 : Int), (0 : Int))).fst ((6 : Int)), r_2, y.snd.fst.snd.snd.snd), P.mput (fun (x y : Int × Int) => P.and (P.ieq x.fst y.fst) (P.ieq x.snd y.snd)) y.snd.snd (P.get y.fst ((0 : Int)) ((0 : Int), (0 : Int))) true)))) (some (Sum.inl (P.sub_ y.fst ((1 : Int)) (P.add ((1 : Int)) (P.sub (P.len y.fst) ((1 : Int)))), (y.snd.fst.fst, P.ieq (P.get y.fst ((0 : Int)) ((0 : Int), (0 : Int))).fst ((6 : Int)), r_2, y.snd.fst.snd.snd.snd), P.mput (fun (x y : Int × Int) => P.and (P.ieq x.fst y.fst) (P.ieq x.snd y.snd)) y.snd.snd (P.get y.fst ((0 : Int)) ((0 : Int), (0 : Int))) true))))) (P.bind (lookup_place k (P.get y.fst ((0 : Int)) ((0 : Int), (0 : Int)))) fun (r_3 : Bool) => P.cond r_3 (P.cond r.snd (P.cond (P.not r_1.fst.snd.fst) (P.bind (atoms_Norm k r.fst.snd) fun (r : List (Int × Int)) => P.cond (P.room (P.add (P.len (P.sub_ y.fst ((1 : Int)) (P.add ((1 : Int)) (P.sub (P.len y.fst) ((1 : Int)))))) (P.len r)) 16) (some (Sum.inl (P.app (P.sub_ y.fst ((1 : Int)) (P.add ((1 : Int)) (P.sub (P.len y.fst) ((1 : Int))))) r, (y.snd.fst.fst, P.ieq (P.get y.fst ((0 : Int)) ((0 : Int), (0 : Int))).fst ((6 : Int)), r_2, y.snd.fst.snd.snd.snd), P.mput (fun (x y : Int × Int) => P.and (P.ieq x.fst y.fst) (P.ieq x.snd y.snd)) y.snd.snd (P.get y.fst ((0 : Int)) ((0 : Int), (0 : Int))) true))) none) (some (Sum.inl (P.sub_ y.fst ((1 : Int)) (P.add ((1 : Int)) (P.sub (P.len y.fst) ((1 : Int)))), (y.snd.fst.fst, P.ieq (P.get y.fst ((0 : Int)) ((0 : Int), (0 : Int))).fst ((6 : Int)), r_2, y.snd.fst.snd.snd.snd), P.mput (fun (x y : Int × Int) => P.and (P.ieq x.fst y.fst) (P.ieq x.snd y.snd)) y.snd.snd (P.get y.fst ((0 : Int)) ((0 : Int), (0 : Int))) true)))) (some (Sum.inl (P.sub_ y.fst ((1 : Int)) (P.add ((1 : Int)) (P.sub (P.len y.fst) ((1 : Int)))), (y.snd.fst.fst, P.ieq (P.get y.fst ((0 : Int)) ((0 : Int), (0 : Int))).fst ((6 : Int)), r_2, y.snd.fst.snd.snd.snd), P.mput (fun (x y : Int × Int) => P.and (P.ieq x.fst y.fst) (P.ieq x.snd y.snd)) y.snd.snd (P.get y.fst ((0 : Int)) ((0 : Int), (0 : Int))) true)))) (some (Sum.inl (P.sub_ y.fst ((1 : Int)) (P.add ((1 : Int)) (P.sub (P.len y.fst) ((1 : Int)))), (y.snd.fst.fst, P.ieq (P.get y.fst ((0 : Int)) ((0 : Int), (0 : Int))).fst ((6 : Int)), r_2, y.snd.fst.snd.snd.snd), P.mput (fun (x y : Int × Int) => P.and (P.ieq x.fst y.fst) (P.ieq x.snd y.snd)) y.snd.snd (P.get y.fst ((0 : Int)) ((0 : Int), (0 : Int))) true))))) (P.cond r_1.snd (P.bind (lookup_place k (P.get y.fst ((0 : Int)) ((0 : Int), (0 : Int)))) fun (r_2 : Bool) => P.cond r_2 (P.bind (slices_Concat_api_Atom_api_Atom k [y.snd.fst.fst, r_1.fst.snd.snd]) fun (r_3 : List (Int × Int)) => P.bind (lookup_place k (P.get y.fst ((0 : Int)) ((0 : Int), (0 : Int)))) fun (r_4 : Bool) => P.cond r_4 (P.cond r.snd (P.cond (P.not r_1.fst.snd.fst) (P.bind (atoms_Norm k r.fst.snd) fun (r : List (Int × Int)) => P.cond (P.room (P.add (P.len (P.sub_ y.fst ((1 : Int)) (P.add ((1 : Int)) (P.sub (P.len y.fst) ((1 : Int)))))) (P.len r)) 16) (some (Sum.inl (P.app (P.sub_ y.fst ((1 : Int)) (P.add ((1 : Int)) (P.sub (P.len y.fst) ((1 : Int))))) r, (r_3, P.ieq (P.get y.fst ((0 : Int)) ((0 : Int), (0 : Int))).fst ((6 : Int)), false, true), P.mput (fun (x y : Int × Int) => P.and (P.ieq x.fst y.fst) (P.ieq x.snd y.snd)) y.snd.snd (P.get y.fst ((0 : Int)) ((0 : Int), (0 : Int))) true))) none) (some (Sum.inl (P.sub_ y.fst ((1 : Int)) (P.add ((1 : Int)) (P.sub (P.len y.fst) ((1 : Int)))), (r_3, P.ieq (P.get y.fst ((0 : Int)) ((0 : Int), (0 : Int))).fst ((6 : Int)), false, true), P.mput (fun (x y : Int × Int) => P.and (P.ieq x.fst y.fst) (P.ieq x.snd y.snd)) y.snd.snd (P.get y.fst ((0 : Int)) ((0 : Int), (0 : Int))) true)))) (some (Sum.inl (P.sub_ y.fst ((1 : Int)) (P.add ((1 : Int)) (P.sub (P.len y.fst) ((1 : Int)))), (r_3, P.ieq (P.get y.fst ((0 : Int)) ((0 : Int), (0 : Int))).fst ((6 : Int)), false, true), P.mput (fun (x y : Int × Int) => P.and (P.ieq x.fst y.fst) (P.ieq x.snd y.snd)) y.snd.snd (P.get y.fst ((0 : Int)) ((0 : Int), (0 : Int))) true)))) (some (Sum.inl (P.sub_ y.fst ((1 : Int)) (P.add ((1 : Int)) (P.sub (P.len y.fst) ((1 : Int)))), (r_3, P.ieq (P.get y.fst ((0 : Int)) ((0 : Int), (0 : Int))).fst ((6 : Int)), false, true), P.mput (fun (x y : Int × Int) => P.and (P.ieq x.fst y.fst) (P.ieq x.snd y.snd)) y.snd.snd (P.get y.fst ((0 : Int)) ((0 : Int), (0 : Int))) true)))) (P.bind (lookup_place k (P.get y.fst ((0 : Int)) ((0 : Int), (0 : Int)))) fun (r_3 : Bool) => P.cond r_3 (P.cond r.snd (P.cond (P.not r_1.fst.snd.fst) (P.bind (atoms_Norm k r.fst.snd) fun (r : List (Int × Int)) => P.cond (P.room (P.add (P.len (P.sub_ y.fst ((1 : Int)) (P.add ((1 : Int)) (P.sub (P.len y.fst) ((1 : Int)))))) (P.len r)) 16) (some (Sum.inl (P.app (P.sub_ y.fst ((1 : Int)) (P.add ((1 : Int)) (P.sub (P.len y.fst) ((1 : Int))))) r, (y.snd.fst.fst, P.ieq (P.get y.fst ((0 : Int)) ((0 : Int), (0 : Int))).fst ((6 : Int)), false, y.snd.fst.snd.snd.snd), P.mput (fun (x y : Int × Int) => P.and (P.ieq x.fst y.fst) (P.ieq x.snd y.snd)) y.snd.snd (P.get y.fst ((0 : Int)) ((0 : Int), (0 : Int))) true))) none) (some (Sum.inl (P.sub_ y.fst ((1 : Int)) (P.add ((1 : Int)) (P.sub (P.len y.fst) ((1 : Int)))), (y.snd.fst.fst, P.ieq (P.get y.fst ((0 : Int)) ((0 : Int), (0 : Int))).fst ((6 : Int)), false, y.snd.fst.snd.snd.snd), P.mput (fun (x y : Int × Int) => P.and (P.ieq x.fst y.fst) (P.ieq x.snd y.snd)) y.snd.snd (P.get y.fst ((0 : Int)) ((0 : Int), (0 : Int))) true)))) (some (Sum.inl (P.sub_ y.fst ((1 : Int)) (P.add ((1 : Int)) (P.sub (P.len y.fst) ((1 : Int)))), (y.snd.fst.fst, P.ieq (P.get y.fst ((0 : Int)) ((0 : Int), (0 : Int))).fst ((6 : Int)), false, y.snd.fst.snd.snd.snd), P.mput (fun (x y : Int × Int) => P.and (P.ieq x.fst y.fst) (P.ieq x.snd y.snd)) y.snd.snd (P.get y.fst ((0 : Int)) ((0 : Int), (0 : Int))) true)))) (some (Sum.inl (P.sub_ y.fst ((1 : Int)) (P.add ((1 : Int)) (P.sub (P.len y.fst) ((1 : Int)))), (y.snd.fst.fst, P.ieq (P.get y.fst ((0 : Int)) ((0 : Int), (0 : Int))).fst ((6 : Int)), false, y.snd.fst.snd.snd.snd), P.mput (fun (x y : Int × Int) => P.and (P.ieq x.fst y.fst) (P.ieq x.snd y.snd)) y.snd.snd (P.get y.fst ((0 : Int)) ((0 : Int), (0 : Int))) true))))) (P.bind (lookup_place k (P.get y.fst ((0 : Int)) ((0 : Int), (0 : Int)))) fun (r_2 : Bool) => P.cond r_2 (P.cond r.snd (P.cond (P.not r_1.fst.snd.fst) (P.bind (atoms_Norm k r.fst.snd) fun (r : List (Int × Int)) => P.cond (P.room (P.add (P.len (P.sub_ y.fst ((1 : Int)) (P.add ((1 : Int)) (P.sub (P.len y.fst) ((1 : Int)))))) (P.len r)) 16) (some (Sum.inl (P.app (P.sub_ y.fst ((1 : Int)) (P.add ((1 : Int)) (P.sub (P.len y.fst) ((1 : Int))))) r, (y.snd.fst.fst, P.ieq (P.get y.fst ((0 : Int)) ((0 : Int), (0 : Int))).fst ((6 : Int)), false, y.snd.fst.snd.snd.snd), P.mput (fun (x y : Int × Int) => P.and (P.ieq x.fst y.fst) (P.ieq x.snd y.snd)) y.snd.snd (P.get y.fst ((0 : Int)) ((0 : Int), (0 : Int))) true))) none) (some (Sum.inl (P.sub_ y.fst ((1 : Int)) (P.add ((1 : Int)) (P.sub (P.len y.fst) ((1 : Int)))), (y.snd.fst.fst, P.ieq (P.get y.fst ((0 : Int)) ((0 : Int), (0 : Int))).fst ((6 : Int)), false, y.snd.fst.snd.snd.snd), P.mput (fun (x y : Int × Int) => P.and (P.ieq x.fst y.fst) (P.ieq x.snd y.snd)) y.snd.snd (P.get y.fst ((0 : Int)) ((0 : Int), (0 : Int))) true)))) (some (Sum.inl (P.sub_ y.fst ((1 : Int)) (P.add ((1 : Int)) (P.sub (P.len y.fst) ((1 : Int)))), (y.snd.fst.fst, P.ieq (P.get y.fst ((0 : Int)) ((0 : Int), (0 : Int))).fst ((6 : Int)), false, y.snd.fst.snd.snd.snd), P.mput (fun (x y : Int × Int) => P.and (P.ieq x.fst y.fst) (P.ieq x.snd y.snd)) y.snd.snd (P.get y.fst ((0 : Int)) ((0 : Int), (0 : Int))) true)))) (some (Sum.inl (P.sub_ y.fst ((1 : Int)) (P.add ((1 : Int)) (P.sub (P.len y.fst) ((1 : Int)))), (y.snd.fst.fst, P.ieq (P.get y.fst ((0 : Int)) ((0 : Int), (0 : Int))).fst ((6 : Int)), false, y.snd.fst.snd.snd.snd), P.mput (fun (x y : Int × Int) => P.and (P.ieq x.fst y.fst) (P.ieq x.snd y.snd)) y.snd.snd (P.get y.fst ((0 : Int)) ((0 : Int), (0 : Int))) true)))))))) none) none) (some (Sum.inr (Sum.inl (y.snd.fst, y.snd.snd))))) (r, ([], false, true, false), [])) (P.either (fun (z : (List (Int × Int) × Bool × Bool × Bool) × List ((Int × Int) × Bool)) => P.bind (atoms_Norm k z.fst.fst) fun (r : List (Int × Int)) => some (r, z.fst.snd.fst, z.fst.snd.snd.fst, z.fst.snd.snd.snd)) fun (r : List (Int × Int) × Bool × Bool × Bool) => some r)
noncomputable abbrev EN14 (k : Nat) (sp : List (Nat × Go.PG.Spec)) : Go.PG.Env := { T := T, specs := sp, codes := codesF, k := k, inpl := [(50, ⟨T_api_Atom, 51, sortF⟩)], calm := [57, 31, 0], maps := [(74, T_api_Atom, .bool)], ospecs := [(31, ⟨(.slice T_api_Atom), T_api_Atom, atoms_Norm k⟩)] }
theorem lookup_Find_eq (k : Nat) (x : (Ty.D (.pair T_api_State (.pair (.slice T_api_Atom) .str)))) : evFn (EN14 k [(34, ⟨T_api_Atom, .bool, lookup_place k⟩), (35, ⟨(.slice (.slice T_api_Atom)), (.slice T_api_Atom), slices_Concat_api_Atom_api_Atom k⟩), (44, ⟨(.pair T_api_State T_api_Atom), (.pair T_api_Shape .bool), state_Loc k⟩), (45, ⟨(.pair T_api_Shape .str), (.pair T_api_Field .bool), object_Get k⟩), (47, ⟨(.slice T_api_Atom), (.slice T_api_Atom), slices_Clone_api_Atom_api_Atom k⟩)]) 6 Try.f14 [] (.pair T_api_State (.pair (.slice T_api_Atom) .str)) T_api_Found x = lookup_Find k x := by kernel_rfl
theorem lookup_Find_spec (k : Nat) : SpecOk Try.prog GG 14 ⟨(.pair T_api_State (.pair (.slice T_api_Atom) .str)), T_api_Found, lookup_Find k⟩ :=
  fn_spec (envOk (E := EN14 k [(34, ⟨T_api_Atom, .bool, lookup_place k⟩), (35, ⟨(.slice (.slice T_api_Atom)), (.slice T_api_Atom), slices_Concat_api_Atom_api_Atom k⟩), (44, ⟨(.pair T_api_State T_api_Atom), (.pair T_api_Shape .bool), state_Loc k⟩), (45, ⟨(.pair T_api_Shape .str), (.pair T_api_Field .bool), object_Get k⟩), (47, ⟨(.slice T_api_Atom), (.slice T_api_Atom), slices_Clone_api_Atom_api_Atom k⟩)]) tabOk (.cons (lookup_place_spec k) f34_at f34_ok <| .cons (slices_Concat_api_Atom_api_Atom_spec k) f35_at f35_ok <| .cons (state_Loc_spec k) f44_at f44_ok <| .cons (object_Get_spec k) f45_at f45_ok <| .cons (slices_Clone_api_Atom_api_Atom_spec k) f47_at f47_ok <| .nil) codesFOk mixedOk (fun _ _ _ _ => trivial) (hi := inplOk) (hmp := mapsOk) (ho := .cons (atoms_Norm_ospec k) f31_at f31_ok <| .nil)) f14_at (fun x => (lookup_Find_eq k x).symm)
noncomputable def ref06_Dyn : (k : Nat) → (Ty.D .unit) → Option (Ty.D (.slice T_api_Atom)) := fun (k : Nat) (x : Ty.unit.D) => some [((6 : Int), (0 : Int))]
theorem ref06_Dyn_eq (k : Nat) (x : (Ty.D .unit)) : evFn (EN k []) 6 Try.f25 [] .unit (.slice T_api_Atom) x = ref06_Dyn k x := by kernel_rfl
theorem ref06_Dyn_spec (k : Nat) : SpecOk Try.prog GG 25 ⟨.unit, (.slice T_api_Atom), ref06_Dyn k⟩ :=
  fn_spec (envOk (E := EN k []) tabOk (.nil) codesOk mixedOk (fun _ _ _ _ => trivial) (hi := inplOk) (hmp := mapsOk)) f25_at (fun x => (ref06_Dyn_eq k x).symm)
noncomputable def ref06_Num : (k : Nat) → (Ty.D .unit) → Option (Ty.D (.slice T_api_Atom)) := fun (k : Nat) (x : Ty.unit.D) => some [((2 : Int), (0 : Int))]
theorem ref06_Num_eq (k : Nat) (x : (Ty.D .unit)) : evFn (EN k []) 6 Try.f26 [] .unit (.slice T_api_Atom) x = ref06_Num k x := by kernel_rfl
theorem ref06_Num_spec (k : Nat) : SpecOk Try.prog GG 26 ⟨.unit, (.slice T_api_Atom), ref06_Num k⟩ :=
  fn_spec (envOk (E := EN k []) tabOk (.nil) codesOk mixedOk (fun _ _ _ _ => trivial) (hi := inplOk) (hmp := mapsOk)) f26_at (fun x => (ref06_Num_eq k x).symm)
noncomputable def ref06_Null : (k : Nat) → (Ty.D .unit) → Option (Ty.D (.slice T_api_Atom)) := fun (k : Nat) (x : Ty.unit.D) => some [((0 : Int), (0 : Int))]
theorem ref06_Null_eq (k : Nat) (x : (Ty.D .unit)) : evFn (EN k []) 6 Try.f40 [] .unit (.slice T_api_Atom) x = ref06_Null k x := by kernel_rfl
theorem ref06_Null_spec (k : Nat) : SpecOk Try.prog GG 40 ⟨.unit, (.slice T_api_Atom), ref06_Null k⟩ :=
  fn_spec (envOk (E := EN k []) tabOk (.nil) codesOk mixedOk (fun _ _ _ _ => trivial) (hi := inplOk) (hmp := mapsOk)) f40_at (fun x => (ref06_Null_eq k x).symm)
noncomputable def law10_two : (k : Nat) → (Ty.D .bool) → Option (Ty.D T_api_State) := fun (k : Nat) (x : Ty.bool.D) => P.bind (ref06_Num k PUnit.unit) fun (r : List (Int × Int)) => P.bind (ref06_Null k PUnit.unit) fun (r_1 : List (Int × Int)) => some (false, [], [(((4 : Int), (0 : Int)), [], [((5 : Int), (1 : Int))]), (((5 : Int), (1 : Int)), [((ByteArray.mk #[112]), x, r)], r_1)])
noncomputable abbrev EN27 (k : Nat) (sp : List (Nat × Go.PG.Spec)) : Go.PG.Env := { T := T, specs := sp, codes := codes, k := k, inpl := [(50, ⟨T_api_Atom, 51, sortF⟩)], calm := [57, 31, 0, 1], maps := [(74, T_api_Atom, .bool)] }
theorem law10_two_eq (k : Nat) (x : (Ty.D .bool)) : evFn (EN27 k [(26, ⟨.unit, (.slice T_api_Atom), ref06_Num k⟩), (40, ⟨.unit, (.slice T_api_Atom), ref06_Null k⟩)]) 6 Try.f27 [] .bool T_api_State x = law10_two k x := by kernel_rfl
theorem law10_two_spec (k : Nat) : SpecOk Try.prog GG 27 ⟨.bool, T_api_State, law10_two k⟩ :=
  fn_spec (envOk (E := EN27 k [(26, ⟨.unit, (.slice T_api_Atom), ref06_Num k⟩), (40, ⟨.unit, (.slice T_api_Atom), ref06_Null k⟩)]) tabOk (.cons (ref06_Num_spec k) f26_at f26_ok <| .cons (ref06_Null_spec k) f40_at f40_ok <| .nil) codesOk mixedOk (fun _ _ _ _ => trivial) (hi := inplOk) (hmp := mapsOk)) f27_at (fun x => (law10_two_eq k x).symm)
noncomputable def ref03_Digits : (k : Nat) → (Ty.D (.int .u64)) → Option (Ty.D .str) := fun (k : Nat) (x : (Ty.int IntKind.u64).D) => P.bind (P.iter k (fun (y : Int × ByteArray) => P.cond (P.ilt ((9 : Int)) y.fst) (P.cond (P.not (P.ieq ((10 : Int)) ((0 : Int)))) (P.cond (P.not (P.ieq ((10 : Int)) ((0 : Int)))) (P.cond (P.cut (P.rem y.fst ((10 : Int))) (P.wrap IntKind.u64 (P.add (P.rem y.fst ((10 : Int))) ((1 : Int)))) (P.slen (ByteArray.mk #[48, 49, 50, 51, 52, 53, 54, 55, 56, 57]))) (P.cond (P.sfit (P.ssub (ByteArray.mk #[48, 49, 50, 51, 52, 53, 54, 55, 56, 57]) (P.rem y.fst ((10 : Int))) (P.wrap IntKind.u64 (P.add (P.rem y.fst ((10 : Int))) ((1 : Int))))) y.snd) (P.cond (P.not (P.ieq ((10 : Int)) ((0 : Int)))) (some (Sum.inl (P.wrap IntKind.u64 (P.quo y.fst ((10 : Int))), P.scat (P.ssub (ByteArray.mk #[48, 49, 50, 51, 52, 53, 54, 55, 56, 57]) (P.rem y.fst ((10 : Int))) (P.wrap IntKind.u64 (P.add (P.rem y.fst ((10 : Int))) ((1 : Int))))) y.snd))) none) none) none) none) none) (some (Sum.inr (Sum.inl (y.fst, y.snd))))) (x, (ByteArray.mk #[]))) (P.either (fun (z : Int × ByteArray) => P.cond (P.cut z.fst (P.wrap IntKind.u64 (P.add z.fst ((1 : Int)))) (P.slen (ByteArray.mk #[48, 49, 50, 51, 52, 53, 54, 55, 56, 57]))) (P.cond (P.sfit (P.ssub (ByteArray.mk #[48, 49, 50, 51, 52, 53, 54, 55, 56, 57]) z.fst (P.wrap IntKind.u64 (P.add z.fst ((1 : Int))))) z.snd) (some (P.scat (P.ssub (ByteArray.mk #[48, 49, 50, 51, 52, 53, 54, 55, 56, 57]) z.fst (P.wrap IntKind.u64 (P.add z.fst ((1 : Int))))) z.snd)) none) none) fun (r : ByteArray) => some r)
theorem ref03_Digits_eq (k : Nat) (x : (Ty.D (.int .u64))) : evFn (EN k []) 6 Try.f55 [(2, ⟨[.var 0 (.d (.int .u64)), .var 3 (.d .str)], [], (some (0, [.var 0 (.d (.int .u64)), .var 3 (.d .str)]))⟩)] (.int .u64) .str x = ref03_Digits k x := by kernel_rfl
theorem ref03_Digits_spec (k : Nat) : SpecOk Try.prog GG 55 ⟨(.int .u64), .str, ref03_Digits k⟩ :=
  fn_spec (envOk (E := EN k []) tabOk (.nil) codesOk mixedOk (fun _ _ _ _ => trivial) (hi := inplOk) (hmp := mapsOk)) f55_at (fun x => (ref03_Digits_eq k x).symm)
noncomputable def ref03_Signed : (k : Nat) → (Ty.D (.int .i64)) → Option (Ty.D .str) := fun (k : Nat) (x : (Ty.int IntKind.i64).D) => P.cond (P.ilt x ((0 : Int))) (P.bind (ref03_Digits k (P.wrap IntKind.u64 (P.add (P.wrap IntKind.u64 (P.wrap IntKind.i64 (P.sub ((0 : Int)) (P.wrap IntKind.i64 (P.add x ((1 : Int))))))) ((1 : Int))))) fun (r : ByteArray) => P.cond (P.sfit (ByteArray.mk #[45]) r) (some (P.scat (ByteArray.mk #[45]) r)) none) (P.bind (ref03_Digits k (P.wrap IntKind.u64 x)) fun (r : ByteArray) => some r)
theorem ref03_Signed_eq (k : Nat) (x : (Ty.D (.int .i64))) : evFn (EN k [(55, ⟨(.int .u64), .str, ref03_Digits k⟩)]) 6 Try.f43 [] (.int .i64) .str x = ref03_Signed k x := by kernel_rfl
theorem ref03_Signed_spec (k : Nat) : SpecOk Try.prog GG 43 ⟨(.int .i64), .str, ref03_Signed k⟩ :=
  fn_spec (envOk (E := EN k [(55, ⟨(.int .u64), .str, ref03_Digits k⟩)]) tabOk (.cons (ref03_Digits_spec k) f55_at f55_ok <| .nil) codesOk mixedOk (fun _ _ _ _ => trivial) (hi := inplOk) (hmp := mapsOk)) f43_at (fun x => (ref03_Signed_eq k x).symm)
noncomputable def ref06_Text : (k : Nat) → (Ty.D (.slice T_api_Atom)) → Option (Ty.D .str) := fun (k : Nat) (x : T_api_Atom.slice.D) => P.bind (P.iter k (fun (y : ByteArray × Int) => P.cond (P.ilt y.snd (P.len x)) (P.cond (P.ilt ((0 : Int)) y.snd) (P.cond (P.sfit y.fst (ByteArray.mk #[32])) (P.cond (P.inb y.snd (P.len x)) (P.cond (P.ilt (P.get x y.snd ((0 : Int), (0 : Int))).fst ((0 : Int))) (P.cond (P.sfit (P.scat y.fst (ByteArray.mk #[32])) (ByteArray.mk #[63])) (some (Sum.inl (P.scat (P.scat y.fst (ByteArray.mk #[32])) (ByteArray.mk #[63]), P.wrap IntKind.i64 (P.add y.snd ((1 : Int)))))) none) (P.cond (P.ilt ((6 : Int)) (P.get x y.snd ((0 : Int), (0 : Int))).fst) (P.cond (P.sfit (P.scat y.fst (ByteArray.mk #[32])) (ByteArray.mk #[63])) (some (Sum.inl (P.scat (P.scat y.fst (ByteArray.mk #[32])) (ByteArray.mk #[63]), P.wrap IntKind.i64 (P.add y.snd ((1 : Int)))))) none) (P.cond (P.inb (P.get x y.snd ((0 : Int), (0 : Int))).fst (P.len [(ByteArray.mk #[110, 117, 108, 108]), (ByteArray.mk #[98, 111, 111, 108]), (ByteArray.mk #[110, 117, 109]), (ByteArray.mk #[102, 117, 110]), (ByteArray.mk #[114, 101, 99]), (ByteArray.mk #[115, 117, 109]), (ByteArray.mk #[97, 110, 121])])) (P.cond (P.sfit (P.scat y.fst (ByteArray.mk #[32])) (P.get [(ByteArray.mk #[110, 117, 108, 108]), (ByteArray.mk #[98, 111, 111, 108]), (ByteArray.mk #[110, 117, 109]), (ByteArray.mk #[102, 117, 110]), (ByteArray.mk #[114, 101, 99]), (ByteArray.mk #[115, 117, 109]), (ByteArray.mk #[97, 110, 121])] (P.get x y.snd ((0 : Int), (0 : Int))).fst (ByteArray.mk #[]))) (P.cond (P.ile ((3 : Int)) (P.get x y.snd ((0 : Int), (0 : Int))).fst) (P.cond (P.ile (P.get x y.snd ((0 : Int), (0 : Int))).fst ((5 : Int))) (P.cond (P.inb y.snd (P.len x)) (P.bind (ref03_Signed k (P.get x y.snd ((0 : Int), (0 : Int))).snd) fun (r : ByteArray) => P.cond (P.sfit (P.scat (P.scat y.fst (ByteArray.mk #[32])) (P.get [(ByteArray.mk #[110, 117, 108, 108]), (ByteArray.mk #[98, 111, 111, 108]), (ByteArray.mk #[110, 117, 109]), (ByteArray.mk #[102, 117, 110]), (ByteArray.mk #[114, 101, 99]), (ByteArray.mk #[115, 117, 109]), (ByteArray.mk #[97, 110, 121])] (P.get x y.snd ((0 : Int), (0 : Int))).fst (ByteArray.mk #[]))) r) (some (Sum.inl (P.scat (P.scat (P.scat y.fst (ByteArray.mk #[32])) (P.get [(ByteArray.mk #[110, 117, 108, 108]), (ByteArray.mk #[98, 111, 111, 108]), (ByteArray.mk #[110, 117, 109]), (ByteArray.mk #[102, 117, 110]), (ByteArray.mk #[114, 101, 99]), (ByteArray.mk #[115, 117, 109]), (ByteArray.mk #[97, 110, 121])] (P.get x y.snd ((0 : Int), (0 : Int))).fst (ByteArray.mk #[]))) r, P.wrap IntKind.i64 (P.add y.snd ((1 : Int)))))) none) none) (some (Sum.inl (P.scat (P.scat y.fst (ByteArray.mk #[32])) (P.get [(ByteArray.mk #[110, 117, 108, 108]), (ByteArray.mk #[98, 111, 111, 108]), (ByteArray.mk #[110, 117, 109]), (ByteArray.mk #[102, 117, 110]), (ByteArray.mk #[114, 101, 99]), (ByteArray.mk #[115, 117, 109]), (ByteArray.mk #[97, 110, 121])] (P.get x y.snd ((0 : Int), (0 : Int))).fst (ByteArray.mk #[])), P.wrap IntKind.i64 (P.add y.snd ((1 : Int))))))) (some (Sum.inl (P.scat (P.scat y.fst (ByteArray.mk #[32])) (P.get [(ByteArray.mk #[110, 117, 108, 108]), (ByteArray.mk #[98, 111, 111, 108]), (ByteArray.mk #[110, 117, 109]), (ByteArray.mk #[102, 117, 110]), (ByteArray.mk #[114, 101, 99]), (ByteArray.mk #[115, 117, 109]), (ByteArray.mk #[97, 110, 121])] (P.get x y.snd ((0 : Int), (0 : Int))).fst (ByteArray.mk #[])), P.wrap IntKind.i64 (P.add y.snd ((1 : Int))))))) none) none))) none) none) (P.cond (P.inb y.snd (P.len x)) (P.cond (P.ilt (P.get x y.snd ((0 : Int), (0 : Int))).fst ((0 : Int))) (P.cond (P.sfit y.fst (ByteArray.mk #[63])) (some (Sum.inl (P.scat y.fst (ByteArray.mk #[63]), P.wrap IntKind.i64 (P.add y.snd ((1 : Int)))))) none) (P.cond (P.ilt ((6 : Int)) (P.get x y.snd ((0 : Int), (0 : Int))).fst) (P.cond (P.sfit y.fst (ByteArray.mk #[63])) (some (Sum.inl (P.scat y.fst (ByteArray.mk #[63]), P.wrap IntKind.i64 (P.add y.snd ((1 : Int)))))) none) (P.cond (P.inb (P.get x y.snd ((0 : Int), (0 : Int))).fst (P.len [(ByteArray.mk #[110, 117, 108, 108]), (ByteArray.mk #[98, 111, 111, 108]), (ByteArray.mk #[110, 117, 109]), (ByteArray.mk #[102, 117, 110]), (ByteArray.mk #[114, 101, 99]), (ByteArray.mk #[115, 117, 109]), (ByteArray.mk #[97, 110, 121])])) (P.cond (P.sfit y.fst (P.get [(ByteArray.mk #[110, 117, 108, 108]), (ByteArray.mk #[98, 111, 111, 108]), (ByteArray.mk #[110, 117, 109]), (ByteArray.mk #[102, 117, 110]), (ByteArray.mk #[114, 101, 99]), (ByteArray.mk #[115, 117, 109]), (ByteArray.mk #[97, 110, 121])] (P.get x y.snd ((0 : Int), (0 : Int))).fst (ByteArray.mk #[]))) (P.cond (P.ile ((3 : Int)) (P.get x y.snd ((0 : Int), (0 : Int))).fst) (P.cond (P.ile (P.get x y.snd ((0 : Int), (0 : Int))).fst ((5 : Int))) (P.cond (P.inb y.snd (P.len x)) (P.bind (ref03_Signed k (P.get x y.snd ((0 : Int), (0 : Int))).snd) fun (r : ByteArray) => P.cond (P.sfit (P.scat y.fst (P.get [(ByteArray.mk #[110, 117, 108, 108]), (ByteArray.mk #[98, 111, 111, 108]), (ByteArray.mk #[110, 117, 109]), (ByteArray.mk #[102, 117, 110]), (ByteArray.mk #[114, 101, 99]), (ByteArray.mk #[115, 117, 109]), (ByteArray.mk #[97, 110, 121])] (P.get x y.snd ((0 : Int), (0 : Int))).fst (ByteArray.mk #[]))) r) (some (Sum.inl (P.scat (P.scat y.fst (P.get [(ByteArray.mk #[110, 117, 108, 108]), (ByteArray.mk #[98, 111, 111, 108]), (ByteArray.mk #[110, 117, 109]), (ByteArray.mk #[102, 117, 110]), (ByteArray.mk #[114, 101, 99]), (ByteArray.mk #[115, 117, 109]), (ByteArray.mk #[97, 110, 121])] (P.get x y.snd ((0 : Int), (0 : Int))).fst (ByteArray.mk #[]))) r, P.wrap IntKind.i64 (P.add y.snd ((1 : Int)))))) none) none) (some (Sum.inl (P.scat y.fst (P.get [(ByteArray.mk #[110, 117, 108, 108]), (ByteArray.mk #[98, 111, 111, 108]), (ByteArray.mk #[110, 117, 109]), (ByteArray.mk #[102, 117, 110]), (ByteArray.mk #[114, 101, 99]), (ByteArray.mk #[115, 117, 109]), (ByteArray.mk #[97, 110, 121])] (P.get x y.snd ((0 : Int), (0 : Int))).fst (ByteArray.mk #[])), P.wrap IntKind.i64 (P.add y.snd ((1 : Int))))))) (some (Sum.inl (P.scat y.fst (P.get [(ByteArray.mk #[110, 117, 108, 108]), (ByteArray.mk #[98, 111, 111, 108]), (ByteArray.mk #[110, 117, 109]), (ByteArray.mk #[102, 117, 110]), (ByteArray.mk #[114, 101, 99]), (ByteArray.mk #[115, 117, 109]), (ByteArray.mk #[97, 110, 121])] (P.get x y.snd ((0 : Int), (0 : Int))).fst (ByteArray.mk #[])), P.wrap IntKind.i64 (P.add y.snd ((1 : Int))))))) none) none))) none)) (some (Sum.inr (Sum.inl y.fst)))) ((ByteArray.mk #[]), (0 : Int))) (P.either (fun (z : ByteArray) => some z) fun (r : ByteArray) => some r)
theorem ref06_Text_eq (k : Nat) (x : (Ty.D (.slice T_api_Atom))) : evFn (EN k [(43, ⟨(.int .i64), .str, ref03_Signed k⟩)]) 6 Try.f28 [(4, ⟨[.var 4 (.d .str), .var 5 (.d (.int .i64))], [], (some (0, [.var 4 (.d .str)]))⟩)] (.slice T_api_Atom) .str x = ref06_Text k x := by kernel_rfl
theorem ref06_Text_spec (k : Nat) : SpecOk Try.prog GG 28 ⟨(.slice T_api_Atom), .str, ref06_Text k⟩ :=
  fn_spec (envOk (E := EN k [(43, ⟨(.int .i64), .str, ref03_Signed k⟩)]) tabOk (.cons (ref03_Signed_spec k) f43_at f43_ok <| .nil) codesOk mixedOk (fun _ _ _ _ => trivial) (hi := inplOk) (hmp := mapsOk)) f28_at (fun x => (ref06_Text_eq k x).symm)
noncomputable def law10_fixed : (k : Nat) → (Ty.D .unit) → Option (Ty.D .bool) := fun (k : Nat) (x : Ty.unit.D) => P.bind (law10_two k true) fun (r : Bool × List (ByteArray × List (Int × Int)) × List ((Int × Int) × List (ByteArray × Bool × List (Int × Int)) × List (Int × Int))) => P.bind (lookup_Find k (r, [((4 : Int), (0 : Int))], (ByteArray.mk #[112]))) fun (r : List (Int × Int) × Bool × Bool × Bool) => P.bind (law10_two k false) fun (r_1 : Bool × List (ByteArray × List (Int × Int)) × List ((Int × Int) × List (ByteArray × Bool × List (Int × Int)) × List (Int × Int))) => P.bind (lookup_Find k (r_1, [((4 : Int), (0 : Int))], (ByteArray.mk #[112]))) fun (r_2 : List (Int × Int) × Bool × Bool × Bool) => P.bind (law10_two k true) fun (r_3 : Bool × List (ByteArray × List (Int × Int)) × List ((Int × Int) × List (ByteArray × Bool × List (Int × Int)) × List (Int × Int))) => P.bind (ref06_Dyn k PUnit.unit) fun (r_4 : List (Int × Int)) => P.bind (lookup_Find k (r_3, r_4, (ByteArray.mk #[112]))) fun (r_5 : List (Int × Int) × Bool × Bool × Bool) => P.cond r.snd.snd.fst (P.cond r.snd.snd.snd (P.cond (P.not r.snd.fst) (P.bind (ref06_Num k PUnit.unit) fun (r_6 : List (Int × Int)) => P.bind (ref06_Same k (r.fst, r_6)) fun (r : Bool) => P.cond r (P.cond (P.not r_2.snd.snd.fst) (P.cond r_2.snd.snd.snd (P.cond r_5.snd.fst (P.cond (P.not r_5.snd.snd.fst) (P.bind (law10_two k true) fun (r : Bool × List (ByteArray × List (Int × Int)) × List ((Int × Int) × List (ByteArray × Bool × List (Int × Int)) × List (Int × Int))) => P.bind (lookup_Reach k (r, [((4 : Int), (0 : Int))], (ByteArray.mk #[112]))) fun (r : List (Int × Int)) => P.bind (ref06_Text k r) fun (r : ByteArray) => P.cond (P.seq r (ByteArray.mk #[114, 101, 99, 48, 32, 115, 117, 109, 49])) (P.bind (law10_two k false) fun (r : Bool × List (ByteArray × List (Int × Int)) × List ((Int × Int) × List (ByteArray × Bool × List (Int × Int)) × List (Int × Int))) => P.bind (lookup_Reach k (r, [((4 : Int), (0 : Int))], (ByteArray.mk #[112]))) fun (r : List (Int × Int)) => P.bind (ref06_Text k r) fun (r : ByteArray) => some (P.seq r (ByteArray.mk #[110, 117, 108, 108, 32, 114, 101, 99, 48, 32, 115, 117, 109, 49]))) (some false)) (some false)) (some false)) (some false)) (some false)) (some false)) (some false)) (some false)) (some false)
noncomputable abbrev EN9 (k : Nat) (sp : List (Nat × Go.PG.Spec)) : Go.PG.Env := { T := T, specs := sp, codes := codes, k := k, inpl := [(50, ⟨T_api_Atom, 51, sortF⟩)], calm := [57, 31, 0, 1], maps := [(74, T_api_Atom, .bool)] }
theorem law10_fixed_eq (k : Nat) (x : (Ty.D .unit)) : evFn (EN9 k [(10, ⟨(.pair (.slice T_api_Atom) (.slice T_api_Atom)), .bool, ref06_Same k⟩), (11, ⟨(.pair T_api_State (.pair (.slice T_api_Atom) .str)), (.slice T_api_Atom), lookup_Reach k⟩), (14, ⟨(.pair T_api_State (.pair (.slice T_api_Atom) .str)), T_api_Found, lookup_Find k⟩), (25, ⟨.unit, (.slice T_api_Atom), ref06_Dyn k⟩), (26, ⟨.unit, (.slice T_api_Atom), ref06_Num k⟩), (27, ⟨.bool, T_api_State, law10_two k⟩), (28, ⟨(.slice T_api_Atom), .str, ref06_Text k⟩)]) 6 Try.f9 [] .unit .bool x = law10_fixed k x := by kernel_rfl
theorem law10_fixed_spec (k : Nat) : SpecOk Try.prog GG 9 ⟨.unit, .bool, law10_fixed k⟩ :=
  fn_spec (envOk (E := EN9 k [(10, ⟨(.pair (.slice T_api_Atom) (.slice T_api_Atom)), .bool, ref06_Same k⟩), (11, ⟨(.pair T_api_State (.pair (.slice T_api_Atom) .str)), (.slice T_api_Atom), lookup_Reach k⟩), (14, ⟨(.pair T_api_State (.pair (.slice T_api_Atom) .str)), T_api_Found, lookup_Find k⟩), (25, ⟨.unit, (.slice T_api_Atom), ref06_Dyn k⟩), (26, ⟨.unit, (.slice T_api_Atom), ref06_Num k⟩), (27, ⟨.bool, T_api_State, law10_two k⟩), (28, ⟨(.slice T_api_Atom), .str, ref06_Text k⟩)]) tabOk (.cons (ref06_Same_spec k) f10_at f10_ok <| .cons (lookup_Reach_spec k) f11_at f11_ok <| .cons (lookup_Find_spec k) f14_at f14_ok <| .cons (ref06_Dyn_spec k) f25_at f25_ok <| .cons (ref06_Num_spec k) f26_at f26_ok <| .cons (law10_two_spec k) f27_at f27_ok <| .cons (ref06_Text_spec k) f28_at f28_ok <| .nil) codesOk mixedOk (fun _ _ _ _ => trivial) (hi := inplOk) (hmp := mapsOk)) f9_at (fun x => (law10_fixed_eq k x).symm)
noncomputable def ref06_Has : (k : Nat) → (Ty.D (.pair (.slice T_api_Atom) T_api_Atom)) → Option (Ty.D .bool) := fun (k : Nat) (x : (T_api_Atom.slice.pair T_api_Atom).D) => P.bind (P.iter k (fun (y : Int) => P.cond (P.ilt y (P.len x.fst)) (P.cond (P.inb y (P.len x.fst)) (P.cond (P.and (P.ieq (P.get x.fst y ((0 : Int), (0 : Int))).fst x.snd.fst) (P.ieq (P.get x.fst y ((0 : Int), (0 : Int))).snd x.snd.snd)) (some (Sum.inr (Sum.inr true))) (some (Sum.inl (P.wrap IntKind.i64 (P.add y ((1 : Int))))))) none) (some (Sum.inr (Sum.inl PUnit.unit)))) ((0 : Int))) (P.either (fun (z : PUnit) => some false) fun (r : Bool) => some r)
theorem ref06_Has_eq (k : Nat) (x : (Ty.D (.pair (.slice T_api_Atom) T_api_Atom))) : evFn (EN k []) 6 Try.f38 [(2, ⟨[.var 5 (.d (.int .i64))], [], (some (0, []))⟩)] (.pair (.slice T_api_Atom) T_api_Atom) .bool x = ref06_Has k x := by kernel_rfl
theorem ref06_Has_spec (k : Nat) : SpecOk Try.prog GG 38 ⟨(.pair (.slice T_api_Atom) T_api_Atom), .bool, ref06_Has k⟩ :=
  fn_spec (envOk (E := EN k []) tabOk (.nil) codesOk mixedOk (fun _ _ _ _ => trivial) (hi := inplOk) (hmp := mapsOk)) f38_at (fun x => (ref06_Has_eq k x).symm)
noncomputable def ref06_Less : (k : Nat) → (Ty.D (.pair T_api_Atom T_api_Atom)) → Option (Ty.D .bool) := fun (k : Nat) (x : (T_api_Atom.pair T_api_Atom).D) => P.cond (P.ilt x.fst.fst x.snd.fst) (some true) (P.cond (P.ieq x.fst.fst x.snd.fst) (some (P.ilt x.fst.snd x.snd.snd)) (some false))
theorem ref06_Less_eq (k : Nat) (x : (Ty.D (.pair T_api_Atom T_api_Atom))) : evFn (EN k []) 6 Try.f42 [] (.pair T_api_Atom T_api_Atom) .bool x = ref06_Less k x := by kernel_rfl
theorem ref06_Less_spec (k : Nat) : SpecOk Try.prog GG 42 ⟨(.pair T_api_Atom T_api_Atom), .bool, ref06_Less k⟩ :=
  fn_spec (envOk (E := EN k []) tabOk (.nil) codesOk mixedOk (fun _ _ _ _ => trivial) (hi := inplOk) (hmp := mapsOk)) f42_at (fun x => (ref06_Less_eq k x).symm)
noncomputable def ref06_Right : (k : Nat) → (Ty.D T_api_Atom) → Option (Ty.D .bool) := fun (k : Nat) (x : T_api_Atom.D) => P.cond (P.ile ((3 : Int)) x.fst) (P.cond (P.ile x.fst ((5 : Int))) (some (P.ile ((0 : Int)) x.snd)) (P.cond (P.ile ((0 : Int)) x.fst) (P.cond (P.ile x.fst ((6 : Int))) (some (P.ieq x.snd ((0 : Int)))) (some false)) (some false))) (P.cond (P.ile ((0 : Int)) x.fst) (P.cond (P.ile x.fst ((6 : Int))) (some (P.ieq x.snd ((0 : Int)))) (some false)) (some false))
theorem ref06_Right_eq (k : Nat) (x : (Ty.D T_api_Atom)) : evFn (EN k []) 6 Try.f54 [] T_api_Atom .bool x = ref06_Right k x := by kernel_rfl
theorem ref06_Right_spec (k : Nat) : SpecOk Try.prog GG 54 ⟨T_api_Atom, .bool, ref06_Right k⟩ :=
  fn_spec (envOk (E := EN k []) tabOk (.nil) codesOk mixedOk (fun _ _ _ _ => trivial) (hi := inplOk) (hmp := mapsOk)) f54_at (fun x => (ref06_Right_eq k x).symm)
noncomputable def ref06_add : (k : Nat) → (Ty.D (.pair (.slice T_api_Atom) T_api_Atom)) → Option (Ty.D (.slice T_api_Atom)) := fun (k : Nat) (x : (T_api_Atom.slice.pair T_api_Atom).D) => P.bind (ref06_Right k x.snd) fun (r : Bool) => P.cond (P.not r) (some x.fst) (P.bind (ref06_Has k (x.fst, x.snd)) fun (r : Bool) => P.cond r (some x.fst) (P.bind (P.iter k (fun (y : List (Int × Int) × Bool × Int) => P.cond (P.ilt y.snd.snd (P.len x.fst)) (P.cond (P.not y.snd.fst) (P.cond (P.inb y.snd.snd (P.len x.fst)) (P.bind (ref06_Less k (x.snd, P.get x.fst y.snd.snd ((0 : Int), (0 : Int)))) fun (r : Bool) => P.cond r (P.cond (P.room (P.add (P.len y.fst) (P.len [x.snd])) 16) (P.cond (P.inb y.snd.snd (P.len x.fst)) (P.cond (P.room (P.add (P.len (P.app y.fst [x.snd])) (P.len [P.get x.fst y.snd.snd ((0 : Int), (0 : Int))])) 16) (some (Sum.inl (P.app (P.app y.fst [x.snd]) [P.get x.fst y.snd.snd ((0 : Int), (0 : Int))], true, P.wrap IntKind.i64 (P.add y.snd.snd ((1 : Int)))))) none) none) none) (P.cond (P.inb y.snd.snd (P.len x.fst)) (P.cond (P.room (P.add (P.len y.fst) (P.len [P.get x.fst y.snd.snd ((0 : Int), (0 : Int))])) 16) (some (Sum.inl (P.app y.fst [P.get x.fst y.snd.snd ((0 : Int), (0 : Int))], y.snd.fst, P.wrap IntKind.i64 (P.add y.snd.snd ((1 : Int)))))) none) none)) none) (P.cond (P.inb y.snd.snd (P.len x.fst)) (P.cond (P.room (P.add (P.len y.fst) (P.len [P.get x.fst y.snd.snd ((0 : Int), (0 : Int))])) 16) (some (Sum.inl (P.app y.fst [P.get x.fst y.snd.snd ((0 : Int), (0 : Int))], y.snd.fst, P.wrap IntKind.i64 (P.add y.snd.snd ((1 : Int)))))) none) none)) (some (Sum.inr (Sum.inl (y.fst, y.snd.fst))))) ([], false, (0 : Int))) (P.either (fun (z : List (Int × Int) × Bool) => P.cond (P.not z.snd) (P.cond (P.room (P.add (P.len z.fst) (P.len [x.snd])) 16) (some (P.app z.fst [x.snd])) none) (some z.fst)) fun (r : List (Int × Int)) => some r)))
theorem ref06_add_eq (k : Nat) (x : (Ty.D (.pair (.slice T_api_Atom) T_api_Atom))) : evFn (EN k [(38, ⟨(.pair (.slice T_api_Atom) T_api_Atom), .bool, ref06_Has k⟩), (42, ⟨(.pair T_api_Atom T_api_Atom), .bool, ref06_Less k⟩), (54, ⟨T_api_Atom, .bool, ref06_Right k⟩)]) 6 Try.f39 [(6, ⟨[.var 5 (.o (.st (.pair (.int .i64) (.int .i64)))), .var 6 (.d .bool), .var 7 (.d (.int .i64))], [], (some (0, [.var 5 (.o (.st (.pair (.int .i64) (.int .i64)))), .var 6 (.d .bool)]))⟩)] (.pair (.slice T_api_Atom) T_api_Atom) (.slice T_api_Atom) x = ref06_add k x := by kernel_rfl
theorem ref06_add_spec (k : Nat) : SpecOk Try.prog GG 39 ⟨(.pair (.slice T_api_Atom) T_api_Atom), (.slice T_api_Atom), ref06_add k⟩ :=
  fn_spec (envOk (E := EN k [(38, ⟨(.pair (.slice T_api_Atom) T_api_Atom), .bool, ref06_Has k⟩), (42, ⟨(.pair T_api_Atom T_api_Atom), .bool, ref06_Less k⟩), (54, ⟨T_api_Atom, .bool, ref06_Right k⟩)]) tabOk (.cons (ref06_Has_spec k) f38_at f38_ok <| .cons (ref06_Less_spec k) f42_at f42_ok <| .cons (ref06_Right_spec k) f54_at f54_ok <| .nil) codesOk mixedOk (fun _ _ _ _ => trivial) (hi := inplOk) (hmp := mapsOk)) f39_at (fun x => (ref06_add_eq k x).symm)
noncomputable def ref06_Norm : (k : Nat) → (Ty.D (.slice T_api_Atom)) → Option (Ty.D (.slice T_api_Atom)) := fun (k : Nat) (x : T_api_Atom.slice.D) => P.bind (P.iter k (fun (y : List (Int × Int) × Int) => P.cond (P.ilt y.snd (P.len x)) (P.cond (P.inb y.snd (P.len x)) (P.bind (ref06_add k (y.fst, P.get x y.snd ((0 : Int), (0 : Int)))) fun (r : List (Int × Int)) => some (Sum.inl (r, P.wrap IntKind.i64 (P.add y.snd ((1 : Int)))))) none) (some (Sum.inr (Sum.inl y.fst)))) ([], (0 : Int))) (P.either (fun (z : List (Int × Int)) => some z) fun (r : List (Int × Int)) => some r)
theorem ref06_Norm_eq (k : Nat) (x : (Ty.D (.slice T_api_Atom))) : evFn (EN k [(39, ⟨(.pair (.slice T_api_Atom) T_api_Atom), (.slice T_api_Atom), ref06_add k⟩)]) 6 Try.f24 [(3, ⟨[.var 3 (.d (.slice (.st (.pair (.int .i64) (.int .i64))))), .var 4 (.d (.int .i64))], [], (some (0, [.var 3 (.d (.slice (.st (.pair (.int .i64) (.int .i64)))))]))⟩)] (.slice T_api_Atom) (.slice T_api_Atom) x = ref06_Norm k x := by kernel_rfl
theorem ref06_Norm_spec (k : Nat) : SpecOk Try.prog GG 24 ⟨(.slice T_api_Atom), (.slice T_api_Atom), ref06_Norm k⟩ :=
  fn_spec (envOk (E := EN k [(39, ⟨(.pair (.slice T_api_Atom) T_api_Atom), (.slice T_api_Atom), ref06_add k⟩)]) tabOk (.cons (ref06_add_spec k) f39_at f39_ok <| .nil) codesOk mixedOk (fun _ _ _ _ => trivial) (hi := inplOk) (hmp := mapsOk)) f24_at (fun x => (ref06_Norm_eq k x).symm)
noncomputable def ref06_Union : (k : Nat) → (Ty.D (.pair (.slice T_api_Atom) (.slice T_api_Atom))) → Option (Ty.D (.slice T_api_Atom)) := fun (k : Nat) (x : (T_api_Atom.slice.pair T_api_Atom.slice).D) => P.bind (ref06_Norm k x.fst) fun (r : List (Int × Int)) => P.bind (P.iter k (fun (y : List (Int × Int) × Int) => P.cond (P.ilt y.snd (P.len x.snd)) (P.cond (P.inb y.snd (P.len x.snd)) (P.bind (ref06_add k (y.fst, P.get x.snd y.snd ((0 : Int), (0 : Int)))) fun (r : List (Int × Int)) => some (Sum.inl (r, P.wrap IntKind.i64 (P.add y.snd ((1 : Int)))))) none) (some (Sum.inr (Sum.inl y.fst)))) (r, (0 : Int))) (P.either (fun (z : List (Int × Int)) => some z) fun (r : List (Int × Int)) => some r)
theorem ref06_Union_eq (k : Nat) (x : (Ty.D (.pair (.slice T_api_Atom) (.slice T_api_Atom)))) : evFn (EN k [(24, ⟨(.slice T_api_Atom), (.slice T_api_Atom), ref06_Norm k⟩), (39, ⟨(.pair (.slice T_api_Atom) T_api_Atom), (.slice T_api_Atom), ref06_add k⟩)]) 6 Try.f19 [(3, ⟨[.var 5 (.d (.slice (.st (.pair (.int .i64) (.int .i64))))), .var 6 (.d (.int .i64))], [], (some (0, [.var 5 (.d (.slice (.st (.pair (.int .i64) (.int .i64)))))]))⟩)] (.pair (.slice T_api_Atom) (.slice T_api_Atom)) (.slice T_api_Atom) x = ref06_Union k x := by kernel_rfl
theorem ref06_Union_spec (k : Nat) : SpecOk Try.prog GG 19 ⟨(.pair (.slice T_api_Atom) (.slice T_api_Atom)), (.slice T_api_Atom), ref06_Union k⟩ :=
  fn_spec (envOk (E := EN k [(24, ⟨(.slice T_api_Atom), (.slice T_api_Atom), ref06_Norm k⟩), (39, ⟨(.pair (.slice T_api_Atom) T_api_Atom), (.slice T_api_Atom), ref06_add k⟩)]) tabOk (.cons (ref06_Norm_spec k) f24_at f24_ok <| .cons (ref06_add_spec k) f39_at f39_ok <| .nil) codesOk mixedOk (fun _ _ _ _ => trivial) (hi := inplOk) (hmp := mapsOk)) f19_at (fun x => (ref06_Union_eq k x).symm)
noncomputable def ref08_Loc : (k : Nat) → (Ty.D (.pair T_api_State T_api_Atom)) → Option (Ty.D (.pair T_api_Shape .bool)) := fun (k : Nat) (x : (T_api_State.pair T_api_Atom).D) => P.bind (P.iter k (fun (y : Int) => P.cond (P.ilt y (P.len x.fst.snd.snd)) (P.cond (P.inb y (P.len x.fst.snd.snd)) (P.cond (P.and (P.ieq (P.get x.fst.snd.snd y (((0 : Int), (0 : Int)), [], [])).fst.fst x.snd.fst) (P.ieq (P.get x.fst.snd.snd y (((0 : Int), (0 : Int)), [], [])).fst.snd x.snd.snd)) (P.cond (P.inb y (P.len x.fst.snd.snd)) (some (Sum.inr (Sum.inr ((P.get x.fst.snd.snd y (((0 : Int), (0 : Int)), [], [])).snd, true)))) none) (some (Sum.inl (P.wrap IntKind.i64 (P.add y ((1 : Int))))))) none) (some (Sum.inr (Sum.inl PUnit.unit)))) ((0 : Int))) (P.either (fun (z : PUnit) => some (([], []), false)) fun (r : (List (ByteArray × Bool × List (Int × Int)) × List (Int × Int)) × Bool) => some r)
theorem ref08_Loc_eq (k : Nat) (x : (Ty.D (.pair T_api_State T_api_Atom))) : evFn (EN k []) 6 Try.f22 [(2, ⟨[.var 6 (.d (.int .i64))], [4], (some (0, []))⟩)] (.pair T_api_State T_api_Atom) (.pair T_api_Shape .bool) x = ref08_Loc k x := by kernel_rfl
theorem ref08_Loc_spec (k : Nat) : SpecOk Try.prog GG 22 ⟨(.pair T_api_State T_api_Atom), (.pair T_api_Shape .bool), ref08_Loc k⟩ :=
  fn_spec (envOk (E := EN k []) tabOk (.nil) codesOk mixedOk (fun _ _ _ _ => trivial) (hi := inplOk) (hmp := mapsOk)) f22_at (fun x => (ref08_Loc_eq k x).symm)
noncomputable def ref07_Get : (k : Nat) → (Ty.D (.pair T_api_Shape .str)) → Option (Ty.D (.pair T_api_Field .bool)) := fun (k : Nat) (x : (T_api_Shape.pair Ty.str).D) => P.bind (P.iter k (fun (y : Int) => P.cond (P.ilt y (P.len x.fst.fst)) (P.cond (P.inb y (P.len x.fst.fst)) (P.cond (P.seq (P.get x.fst.fst y ((ByteArray.mk #[]), false, [])).fst x.snd) (P.cond (P.inb y (P.len x.fst.fst)) (some (Sum.inr (Sum.inr (P.get x.fst.fst y ((ByteArray.mk #[]), false, []), true)))) none) (some (Sum.inl (P.wrap IntKind.i64 (P.add y ((1 : Int))))))) none) (some (Sum.inr (Sum.inl PUnit.unit)))) ((0 : Int))) (P.either (fun (z : PUnit) => some (((ByteArray.mk #[]), false, []), false)) fun (r : (ByteArray × Bool × List (Int × Int)) × Bool) => some r)
theorem ref07_Get_eq (k : Nat) (x : (Ty.D (.pair T_api_Shape .str))) : evFn (EN k []) 6 Try.f23 [(2, ⟨[.var 6 (.d (.int .i64))], [4], (some (0, []))⟩)] (.pair T_api_Shape .str) (.pair T_api_Field .bool) x = ref07_Get k x := by kernel_rfl
theorem ref07_Get_spec (k : Nat) : SpecOk Try.prog GG 23 ⟨(.pair T_api_Shape .str), (.pair T_api_Field .bool), ref07_Get k⟩ :=
  fn_spec (envOk (E := EN k []) tabOk (.nil) codesOk mixedOk (fun _ _ _ _ => trivial) (hi := inplOk) (hmp := mapsOk)) f23_at (fun x => (ref07_Get_eq k x).symm)
noncomputable def ref08_Place : (k : Nat) → (Ty.D T_api_Atom) → Option (Ty.D .bool) := fun (k : Nat) (x : T_api_Atom.D) => P.cond (P.ieq x.fst ((4 : Int))) (some (P.ile ((0 : Int)) x.snd)) (P.cond (P.ieq x.fst ((5 : Int))) (some (P.ile ((0 : Int)) x.snd)) (some false))
theorem ref08_Place_eq (k : Nat) (x : (Ty.D T_api_Atom)) : evFn (EN k []) 6 Try.f32 [] T_api_Atom .bool x = ref08_Place k x := by kernel_rfl
theorem ref08_Place_spec (k : Nat) : SpecOk Try.prog GG 32 ⟨T_api_Atom, .bool, ref08_Place k⟩ :=
  fn_spec (envOk (E := EN k []) tabOk (.nil) codesOk mixedOk (fun _ _ _ _ => trivial) (hi := inplOk) (hmp := mapsOk)) f32_at (fun x => (ref08_Place_eq k x).symm)
noncomputable def ref10_Reach : (k : Nat) → (Ty.D (.pair T_api_State (.pair (.slice T_api_Atom) .str))) → Option (Ty.D (.slice T_api_Atom)) := fun (k : Nat) (x : (T_api_State.pair (T_api_Atom.slice.pair Ty.str)).D) => P.bind (ref06_Norm k x.snd.fst) fun (r : List (Int × Int)) => P.iter k (fun (y : List (Int × Int)) => P.bind (P.iter k (fun (y_1 : List (Int × Int) × Int) => P.cond (P.ilt y_1.snd (P.len y)) (P.cond (P.inb y_1.snd (P.len y)) (P.bind (ref08_Loc k (x.fst, P.get y y_1.snd ((0 : Int), (0 : Int)))) fun (r : (List (ByteArray × Bool × List (Int × Int)) × List (Int × Int)) × Bool) => P.bind (ref07_Get k (r.fst, x.snd.snd)) fun (r_1 : (ByteArray × Bool × List (Int × Int)) × Bool) => P.cond r.snd (P.cond (P.inb y_1.snd (P.len y)) (P.bind (ref08_Place k (P.get y y_1.snd ((0 : Int), (0 : Int)))) fun (r_2 : Bool) => P.cond r_2 (P.cond (P.not r_1.fst.snd.fst) (P.bind (ref06_Union k (y_1.fst, r.fst.snd)) fun (r : List (Int × Int)) => some (Sum.inl (r, P.wrap IntKind.i64 (P.add y_1.snd ((1 : Int)))))) (some (Sum.inl (y_1.fst, P.wrap IntKind.i64 (P.add y_1.snd ((1 : Int))))))) (some (Sum.inl (y_1.fst, P.wrap IntKind.i64 (P.add y_1.snd ((1 : Int))))))) none) (some (Sum.inl (y_1.fst, P.wrap IntKind.i64 (P.add y_1.snd ((1 : Int))))))) none) (some (Sum.inr (Sum.inl y_1.fst)))) (y, (0 : Int))) (P.either (fun (z : List (Int × Int)) => P.cond (P.ieq (P.len z) (P.len y)) (some (Sum.inr y)) (some (Sum.inl z))) fun (r : List (Int × Int) ⊕ List (Int × Int)) => some r)) r
theorem ref10_Reach_eq (k : Nat) (x : (Ty.D (.pair T_api_State (.pair (.slice T_api_Atom) .str)))) : evFn (EN k [(19, ⟨(.pair (.slice T_api_Atom) (.slice T_api_Atom)), (.slice T_api_Atom), ref06_Union k⟩), (22, ⟨(.pair T_api_State T_api_Atom), (.pair T_api_Shape .bool), ref08_Loc k⟩), (23, ⟨(.pair T_api_Shape .str), (.pair T_api_Field .bool), ref07_Get k⟩), (24, ⟨(.slice T_api_Atom), (.slice T_api_Atom), ref06_Norm k⟩), (32, ⟨T_api_Atom, .bool, ref08_Place k⟩)]) 6 Try.f12 [(2, ⟨[.var 7 (.d (.slice (.st (.pair (.int .i64) (.int .i64)))))], [], none⟩), (4, ⟨[.var 8 (.d (.slice (.st (.pair (.int .i64) (.int .i64))))), .var 9 (.d (.int .i64))], [], (some (2, [.var 8 (.d (.slice (.st (.pair (.int .i64) (.int .i64)))))]))⟩)] (.pair T_api_State (.pair (.slice T_api_Atom) .str)) (.slice T_api_Atom) x = ref10_Reach k x := by kernel_rfl
theorem ref10_Reach_spec (k : Nat) : SpecOk Try.prog GG 12 ⟨(.pair T_api_State (.pair (.slice T_api_Atom) .str)), (.slice T_api_Atom), ref10_Reach k⟩ :=
  fn_spec (envOk (E := EN k [(19, ⟨(.pair (.slice T_api_Atom) (.slice T_api_Atom)), (.slice T_api_Atom), ref06_Union k⟩), (22, ⟨(.pair T_api_State T_api_Atom), (.pair T_api_Shape .bool), ref08_Loc k⟩), (23, ⟨(.pair T_api_Shape .str), (.pair T_api_Field .bool), ref07_Get k⟩), (24, ⟨(.slice T_api_Atom), (.slice T_api_Atom), ref06_Norm k⟩), (32, ⟨T_api_Atom, .bool, ref08_Place k⟩)]) tabOk (.cons (ref06_Union_spec k) f19_at f19_ok <| .cons (ref08_Loc_spec k) f22_at f22_ok <| .cons (ref07_Get_spec k) f23_at f23_ok <| .cons (ref06_Norm_spec k) f24_at f24_ok <| .cons (ref08_Place_spec k) f32_at f32_ok <| .nil) codesOk mixedOk (fun _ _ _ _ => trivial) (hi := inplOk) (hmp := mapsOk)) f12_at (fun x => (ref10_Reach_eq k x).symm)
noncomputable def ref10_Same : (k : Nat) → (Ty.D (.pair T_api_Found T_api_Found)) → Option (Ty.D .bool) := fun (k : Nat) (x : (T_api_Found.pair T_api_Found).D) => P.cond (P.beq x.fst.snd.fst x.snd.snd.fst) (P.cond (P.beq x.fst.snd.snd.fst x.snd.snd.snd.fst) (P.cond (P.beq x.fst.snd.snd.snd x.snd.snd.snd.snd) (P.bind (ref06_Same k (x.fst.fst, x.snd.fst)) fun (r : Bool) => some r) (some false)) (some false)) (some false)
theorem ref10_Same_eq (k : Nat) (x : (Ty.D (.pair T_api_Found T_api_Found))) : evFn (EN k [(10, ⟨(.pair (.slice T_api_Atom) (.slice T_api_Atom)), .bool, ref06_Same k⟩)]) 6 Try.f13 [] (.pair T_api_Found T_api_Found) .bool x = ref10_Same k x := by kernel_rfl
theorem ref10_Same_spec (k : Nat) : SpecOk Try.prog GG 13 ⟨(.pair T_api_Found T_api_Found), .bool, ref10_Same k⟩ :=
  fn_spec (envOk (E := EN k [(10, ⟨(.pair (.slice T_api_Atom) (.slice T_api_Atom)), .bool, ref06_Same k⟩)]) tabOk (.cons (ref06_Same_spec k) f10_at f10_ok <| .nil) codesOk mixedOk (fun _ _ _ _ => trivial) (hi := inplOk) (hmp := mapsOk)) f13_at (fun x => (ref10_Same_eq k x).symm)
noncomputable def ref06_IsDyn : (k : Nat) → (Ty.D (.slice T_api_Atom)) → Option (Ty.D .bool) := fun (k : Nat) (x : T_api_Atom.slice.D) => P.bind (ref06_Has k (x, (6 : Int), (0 : Int))) fun (r : Bool) => some r
theorem ref06_IsDyn_eq (k : Nat) (x : (Ty.D (.slice T_api_Atom))) : evFn (EN k [(38, ⟨(.pair (.slice T_api_Atom) T_api_Atom), .bool, ref06_Has k⟩)]) 6 Try.f36 [] (.slice T_api_Atom) .bool x = ref06_IsDyn k x := by kernel_rfl
theorem ref06_IsDyn_spec (k : Nat) : SpecOk Try.prog GG 36 ⟨(.slice T_api_Atom), .bool, ref06_IsDyn k⟩ :=
  fn_spec (envOk (E := EN k [(38, ⟨(.pair (.slice T_api_Atom) T_api_Atom), .bool, ref06_Has k⟩)]) tabOk (.cons (ref06_Has_spec k) f38_at f38_ok <| .nil) codesOk mixedOk (fun _ _ _ _ => trivial) (hi := inplOk) (hmp := mapsOk)) f36_at (fun x => (ref06_IsDyn_eq k x).symm)
noncomputable def ref10_Find : (k : Nat) → (Ty.D (.pair T_api_State (.pair (.slice T_api_Atom) .str))) → Option (Ty.D T_api_Found) := fun (k : Nat) (x : (T_api_State.pair (T_api_Atom.slice.pair Ty.str)).D) => P.bind (ref10_Reach k (x.fst, x.snd.fst, x.snd.snd)) fun (r : List (Int × Int)) => P.bind (ref06_IsDyn k r) fun (r_1 : Bool) => P.bind (P.iter k (fun (y : Int × List (Int × Int) × Bool × Bool × Bool) => P.cond (P.ilt y.fst (P.len r)) (P.cond (P.inb y.fst (P.len r)) (P.bind (ref08_Place k (P.get r y.fst ((0 : Int), (0 : Int)))) fun (r_2 : Bool) => P.cond (P.not r_2) (some (Sum.inl (P.wrap IntKind.i64 (P.add y.fst ((1 : Int))), y.snd.fst, y.snd.snd.fst, false, y.snd.snd.snd.snd))) (P.cond (P.inb y.fst (P.len r)) (P.bind (ref08_Loc k (x.fst, P.get r y.fst ((0 : Int), (0 : Int)))) fun (r : (List (ByteArray × Bool × List (Int × Int)) × List (Int × Int)) × Bool) => P.bind (ref07_Get k (r.fst, x.snd.snd)) fun (r : (ByteArray × Bool × List (Int × Int)) × Bool) => P.cond r.snd (P.bind (ref06_Union k (y.snd.fst, r.fst.snd.snd)) fun (r : List (Int × Int)) => some (Sum.inl (P.wrap IntKind.i64 (P.add y.fst ((1 : Int))), r, y.snd.snd.fst, y.snd.snd.snd.fst, true))) (some (Sum.inl (P.wrap IntKind.i64 (P.add y.fst ((1 : Int))), y.snd)))) none)) none) (some (Sum.inr (Sum.inl y.snd)))) ((0 : Int), [], r_1, true, false)) (P.either (fun (z : List (Int × Int) × Bool × Bool × Bool) => some z) fun (r : List (Int × Int) × Bool × Bool × Bool) => some r)
theorem ref10_Find_eq (k : Nat) (x : (Ty.D (.pair T_api_State (.pair (.slice T_api_Atom) .str)))) : evFn (EN k [(12, ⟨(.pair T_api_State (.pair (.slice T_api_Atom) .str)), (.slice T_api_Atom), ref10_Reach k⟩), (19, ⟨(.pair (.slice T_api_Atom) (.slice T_api_Atom)), (.slice T_api_Atom), ref06_Union k⟩), (22, ⟨(.pair T_api_State T_api_Atom), (.pair T_api_Shape .bool), ref08_Loc k⟩), (23, ⟨(.pair T_api_Shape .str), (.pair T_api_Field .bool), ref07_Get k⟩), (32, ⟨T_api_Atom, .bool, ref08_Place k⟩), (36, ⟨(.slice T_api_Atom), .bool, ref06_IsDyn k⟩)]) 6 Try.f15 [(4, ⟨[.var 9 (.d (.int .i64)), .box 8 [] (.d (.st (.pair (.slice (.st (.pair (.int .i64) (.int .i64)))) (.pair .bool (.pair .bool .bool)))))], [], (some (0, [.box 8 [] (.d (.st (.pair (.slice (.st (.pair (.int .i64) (.int .i64)))) (.pair .bool (.pair .bool .bool)))))]))⟩)] (.pair T_api_State (.pair (.slice T_api_Atom) .str)) T_api_Found x = ref10_Find k x := by kernel_rfl
theorem ref10_Find_spec (k : Nat) : SpecOk Try.prog GG 15 ⟨(.pair T_api_State (.pair (.slice T_api_Atom) .str)), T_api_Found, ref10_Find k⟩ :=
  fn_spec (envOk (E := EN k [(12, ⟨(.pair T_api_State (.pair (.slice T_api_Atom) .str)), (.slice T_api_Atom), ref10_Reach k⟩), (19, ⟨(.pair (.slice T_api_Atom) (.slice T_api_Atom)), (.slice T_api_Atom), ref06_Union k⟩), (22, ⟨(.pair T_api_State T_api_Atom), (.pair T_api_Shape .bool), ref08_Loc k⟩), (23, ⟨(.pair T_api_Shape .str), (.pair T_api_Field .bool), ref07_Get k⟩), (32, ⟨T_api_Atom, .bool, ref08_Place k⟩), (36, ⟨(.slice T_api_Atom), .bool, ref06_IsDyn k⟩)]) tabOk (.cons (ref10_Reach_spec k) f12_at f12_ok <| .cons (ref06_Union_spec k) f19_at f19_ok <| .cons (ref08_Loc_spec k) f22_at f22_ok <| .cons (ref07_Get_spec k) f23_at f23_ok <| .cons (ref08_Place_spec k) f32_at f32_ok <| .cons (ref06_IsDyn_spec k) f36_at f36_ok <| .nil) codesOk mixedOk (fun _ _ _ _ => trivial) (hi := inplOk) (hmp := mapsOk)) f15_at (fun x => (ref10_Find_eq k x).symm)
noncomputable def law10_LookupTells : (k : Nat) → (Ty.D (.pair T_api_State (.pair (.slice T_api_Atom) .str))) → Option (Ty.D .bool) := fun (k : Nat) (x : (T_api_State.pair (T_api_Atom.slice.pair Ty.str)).D) => P.bind (ref08_Small k x.fst) fun (r : Bool) => P.cond (P.not r) (P.bind (law10_fixed k PUnit.unit) fun (r : Bool) => some r) (P.cond (P.ilt ((40 : Int)) (P.len x.snd.fst)) (P.bind (law10_fixed k PUnit.unit) fun (r : Bool) => some r) (P.bind (law10_fixed k PUnit.unit) fun (r : Bool) => P.cond r (P.bind (lookup_Reach k (x.fst, x.snd.fst, x.snd.snd)) fun (r : List (Int × Int)) => P.bind (ref10_Reach k (x.fst, x.snd.fst, x.snd.snd)) fun (r_1 : List (Int × Int)) => P.bind (ref06_Same k (r, r_1)) fun (r : Bool) => P.cond r (P.bind (lookup_Find k (x.fst, x.snd.fst, x.snd.snd)) fun (r : List (Int × Int) × Bool × Bool × Bool) => P.bind (ref10_Find k (x.fst, x.snd.fst, x.snd.snd)) fun (r_2 : List (Int × Int) × Bool × Bool × Bool) => P.bind (ref10_Same k (r, r_2)) fun (r : Bool) => some r) (some false)) (some false)))
theorem law10_LookupTells_eq (k : Nat) (x : (Ty.D (.pair T_api_State (.pair (.slice T_api_Atom) .str)))) : evFn (EN k [(8, ⟨T_api_State, .bool, ref08_Small k⟩), (9, ⟨.unit, .bool, law10_fixed k⟩), (10, ⟨(.pair (.slice T_api_Atom) (.slice T_api_Atom)), .bool, ref06_Same k⟩), (11, ⟨(.pair T_api_State (.pair (.slice T_api_Atom) .str)), (.slice T_api_Atom), lookup_Reach k⟩), (12, ⟨(.pair T_api_State (.pair (.slice T_api_Atom) .str)), (.slice T_api_Atom), ref10_Reach k⟩), (13, ⟨(.pair T_api_Found T_api_Found), .bool, ref10_Same k⟩), (14, ⟨(.pair T_api_State (.pair (.slice T_api_Atom) .str)), T_api_Found, lookup_Find k⟩), (15, ⟨(.pair T_api_State (.pair (.slice T_api_Atom) .str)), T_api_Found, ref10_Find k⟩)]) 6 Try.f3 [] (.pair T_api_State (.pair (.slice T_api_Atom) .str)) .bool x = law10_LookupTells k x := by kernel_rfl
theorem law10_LookupTells_spec (k : Nat) : SpecOk Try.prog GG 3 ⟨(.pair T_api_State (.pair (.slice T_api_Atom) .str)), .bool, law10_LookupTells k⟩ :=
  fn_spec (envOk (E := EN k [(8, ⟨T_api_State, .bool, ref08_Small k⟩), (9, ⟨.unit, .bool, law10_fixed k⟩), (10, ⟨(.pair (.slice T_api_Atom) (.slice T_api_Atom)), .bool, ref06_Same k⟩), (11, ⟨(.pair T_api_State (.pair (.slice T_api_Atom) .str)), (.slice T_api_Atom), lookup_Reach k⟩), (12, ⟨(.pair T_api_State (.pair (.slice T_api_Atom) .str)), (.slice T_api_Atom), ref10_Reach k⟩), (13, ⟨(.pair T_api_Found T_api_Found), .bool, ref10_Same k⟩), (14, ⟨(.pair T_api_State (.pair (.slice T_api_Atom) .str)), T_api_Found, lookup_Find k⟩), (15, ⟨(.pair T_api_State (.pair (.slice T_api_Atom) .str)), T_api_Found, ref10_Find k⟩)]) tabOk (.cons (ref08_Small_spec k) f8_at f8_ok <| .cons (law10_fixed_spec k) f9_at f9_ok <| .cons (ref06_Same_spec k) f10_at f10_ok <| .cons (lookup_Reach_spec k) f11_at f11_ok <| .cons (ref10_Reach_spec k) f12_at f12_ok <| .cons (ref10_Same_spec k) f13_at f13_ok <| .cons (lookup_Find_spec k) f14_at f14_ok <| .cons (ref10_Find_spec k) f15_at f15_ok <| .nil) codesOk mixedOk (fun _ _ _ _ => trivial) (hi := inplOk) (hmp := mapsOk)) f3_at (fun x => (law10_LookupTells_eq k x).symm)
noncomputable def ref06_May : (k : Nat) → (Ty.D (.slice T_api_Atom)) → Option (Ty.D .bool) := fun (k : Nat) (x : T_api_Atom.slice.D) => P.bind (ref06_Norm k x) fun (r : List (Int × Int)) => P.bind (ref06_Same k (x, r)) fun (r : Bool) => some r
theorem ref06_May_eq (k : Nat) (x : (Ty.D (.slice T_api_Atom))) : evFn (EN k [(10, ⟨(.pair (.slice T_api_Atom) (.slice T_api_Atom)), .bool, ref06_Same k⟩), (24, ⟨(.slice T_api_Atom), (.slice T_api_Atom), ref06_Norm k⟩)]) 6 Try.f16 [] (.slice T_api_Atom) .bool x = ref06_May k x := by kernel_rfl
theorem ref06_May_spec (k : Nat) : SpecOk Try.prog GG 16 ⟨(.slice T_api_Atom), .bool, ref06_May k⟩ :=
  fn_spec (envOk (E := EN k [(10, ⟨(.pair (.slice T_api_Atom) (.slice T_api_Atom)), .bool, ref06_Same k⟩), (24, ⟨(.slice T_api_Atom), (.slice T_api_Atom), ref06_Norm k⟩)]) tabOk (.cons (ref06_Same_spec k) f10_at f10_ok <| .cons (ref06_Norm_spec k) f24_at f24_ok <| .nil) codesOk mixedOk (fun _ _ _ _ => trivial) (hi := inplOk) (hmp := mapsOk)) f16_at (fun x => (ref06_May_eq k x).symm)
noncomputable def ref06_Within : (k : Nat) → (Ty.D (.pair (.slice T_api_Atom) (.slice T_api_Atom))) → Option (Ty.D .bool) := fun (k : Nat) (x : (T_api_Atom.slice.pair T_api_Atom.slice).D) => P.bind (P.iter k (fun (y : Int) => P.cond (P.ilt y (P.len x.fst)) (P.cond (P.inb y (P.len x.fst)) (P.bind (ref06_Has k (x.snd, P.get x.fst y ((0 : Int), (0 : Int)))) fun (r : Bool) => P.cond (P.not r) (some (Sum.inr (Sum.inr false))) (some (Sum.inl (P.wrap IntKind.i64 (P.add y ((1 : Int))))))) none) (some (Sum.inr (Sum.inl PUnit.unit)))) ((0 : Int))) (P.either (fun (z : PUnit) => some true) fun (r : Bool) => some r)
theorem ref06_Within_eq (k : Nat) (x : (Ty.D (.pair (.slice T_api_Atom) (.slice T_api_Atom)))) : evFn (EN k [(38, ⟨(.pair (.slice T_api_Atom) T_api_Atom), .bool, ref06_Has k⟩)]) 6 Try.f18 [(2, ⟨[.var 5 (.d (.int .i64))], [], (some (0, []))⟩)] (.pair (.slice T_api_Atom) (.slice T_api_Atom)) .bool x = ref06_Within k x := by kernel_rfl
theorem ref06_Within_spec (k : Nat) : SpecOk Try.prog GG 18 ⟨(.pair (.slice T_api_Atom) (.slice T_api_Atom)), .bool, ref06_Within k⟩ :=
  fn_spec (envOk (E := EN k [(38, ⟨(.pair (.slice T_api_Atom) T_api_Atom), .bool, ref06_Has k⟩)]) tabOk (.cons (ref06_Has_spec k) f38_at f38_ok <| .nil) codesOk mixedOk (fun _ _ _ _ => trivial) (hi := inplOk) (hmp := mapsOk)) f18_at (fun x => (ref06_Within_eq k x).symm)
noncomputable def ref08_Var : (k : Nat) → (Ty.D (.pair T_api_State .str)) → Option (Ty.D (.slice T_api_Atom)) := fun (k : Nat) (x : (T_api_State.pair Ty.str).D) => P.bind (P.iter k (fun (y : Int) => P.cond (P.ilt y (P.len x.fst.snd.fst)) (P.cond (P.inb y (P.len x.fst.snd.fst)) (P.cond (P.seq (P.get x.fst.snd.fst y ((ByteArray.mk #[]), [])).fst x.snd) (P.cond (P.inb y (P.len x.fst.snd.fst)) (some (Sum.inr (Sum.inr (P.get x.fst.snd.fst y ((ByteArray.mk #[]), [])).snd))) none) (some (Sum.inl (P.wrap IntKind.i64 (P.add y ((1 : Int))))))) none) (some (Sum.inr (Sum.inl PUnit.unit)))) ((0 : Int))) (P.either (fun (z : PUnit) => P.bind (ref06_Null k PUnit.unit) fun (r : List (Int × Int)) => some r) fun (r : List (Int × Int)) => some r)
theorem ref08_Var_eq (k : Nat) (x : (Ty.D (.pair T_api_State .str))) : evFn (EN k [(40, ⟨.unit, (.slice T_api_Atom), ref06_Null k⟩)]) 6 Try.f20 [(2, ⟨[.var 5 (.d (.int .i64))], [], (some (0, []))⟩)] (.pair T_api_State .str) (.slice T_api_Atom) x = ref08_Var k x := by kernel_rfl
theorem ref08_Var_spec (k : Nat) : SpecOk Try.prog GG 20 ⟨(.pair T_api_State .str), (.slice T_api_Atom), ref08_Var k⟩ :=
  fn_spec (envOk (E := EN k [(40, ⟨.unit, (.slice T_api_Atom), ref06_Null k⟩)]) tabOk (.cons (ref06_Null_spec k) f40_at f40_ok <| .nil) codesOk mixedOk (fun _ _ _ _ => trivial) (hi := inplOk) (hmp := mapsOk)) f20_at (fun x => (ref08_Var_eq k x).symm)
noncomputable def ref07_May : (k : Nat) → (Ty.D T_api_Shape) → Option (Ty.D .bool) := fun (k : Nat) (x : T_api_Shape.D) => P.bind (P.iter k (fun (y : Int) => P.cond (P.ilt y (P.len x.fst)) (P.cond (P.inb y (P.len x.fst)) (P.bind (ref06_May k (P.get x.fst y ((ByteArray.mk #[]), false, [])).snd.snd) fun (r : Bool) => P.cond (P.not r) (some (Sum.inr (Sum.inr false))) (P.cond (P.ilt ((0 : Int)) y) (P.cond (P.inb (P.wrap IntKind.i64 (P.sub y ((1 : Int)))) (P.len x.fst)) (P.cond (P.inb y (P.len x.fst)) (P.cond (P.not (P.slt (P.get x.fst (P.wrap IntKind.i64 (P.sub y ((1 : Int)))) ((ByteArray.mk #[]), false, [])).fst (P.get x.fst y ((ByteArray.mk #[]), false, [])).fst)) (some (Sum.inr (Sum.inr false))) (some (Sum.inl (P.wrap IntKind.i64 (P.add y ((1 : Int))))))) none) none) (some (Sum.inl (P.wrap IntKind.i64 (P.add y ((1 : Int)))))))) none) (some (Sum.inr (Sum.inl PUnit.unit)))) ((0 : Int))) (P.either (fun (z : PUnit) => P.bind (ref06_May k x.snd) fun (r : Bool) => some r) fun (r : Bool) => some r)
theorem ref07_May_eq (k : Nat) (x : (Ty.D T_api_Shape)) : evFn (EN k [(16, ⟨(.slice T_api_Atom), .bool, ref06_May k⟩)]) 6 Try.f41 [(2, ⟨[.var 3 (.d (.int .i64))], [], (some (0, []))⟩)] T_api_Shape .bool x = ref07_May k x := by kernel_rfl
theorem ref07_May_spec (k : Nat) : SpecOk Try.prog GG 41 ⟨T_api_Shape, .bool, ref07_May k⟩ :=
  fn_spec (envOk (E := EN k [(16, ⟨(.slice T_api_Atom), .bool, ref06_May k⟩)]) tabOk (.cons (ref06_May_spec k) f16_at f16_ok <| .nil) codesOk mixedOk (fun _ _ _ _ => trivial) (hi := inplOk) (hmp := mapsOk)) f41_at (fun x => (ref07_May_eq k x).symm)
noncomputable def ref08_May : (k : Nat) → (Ty.D T_api_State) → Option (Ty.D .bool) := fun (k : Nat) (x : T_api_State.D) => P.bind (P.iter k (fun (y : Int) => P.cond (P.ilt y (P.len x.snd.fst)) (P.cond (P.inb y (P.len x.snd.fst)) (P.bind (ref06_May k (P.get x.snd.fst y ((ByteArray.mk #[]), [])).snd) fun (r : Bool) => P.cond (P.not r) (some (Sum.inr (Sum.inr false))) (P.cond (P.ilt ((0 : Int)) y) (P.cond (P.inb (P.wrap IntKind.i64 (P.sub y ((1 : Int)))) (P.len x.snd.fst)) (P.cond (P.inb y (P.len x.snd.fst)) (P.cond (P.not (P.slt (P.get x.snd.fst (P.wrap IntKind.i64 (P.sub y ((1 : Int)))) ((ByteArray.mk #[]), [])).fst (P.get x.snd.fst y ((ByteArray.mk #[]), [])).fst)) (some (Sum.inr (Sum.inr false))) (some (Sum.inl (P.wrap IntKind.i64 (P.add y ((1 : Int))))))) none) none) (some (Sum.inl (P.wrap IntKind.i64 (P.add y ((1 : Int)))))))) none) (some (Sum.inr (Sum.inl PUnit.unit)))) ((0 : Int))) (P.either (fun (z : PUnit) => P.bind (P.iter k (fun (y : Int) => P.cond (P.ilt y (P.len x.snd.snd)) (P.cond (P.inb y (P.len x.snd.snd)) (P.bind (ref08_Place k (P.get x.snd.snd y (((0 : Int), (0 : Int)), [], [])).fst) fun (r : Bool) => P.cond (P.not r) (some (Sum.inr (Sum.inr false))) (P.cond (P.inb y (P.len x.snd.snd)) (P.bind (ref07_May k (P.get x.snd.snd y (((0 : Int), (0 : Int)), [], [])).snd) fun (r : Bool) => P.cond (P.not r) (some (Sum.inr (Sum.inr false))) (P.cond (P.ilt ((0 : Int)) y) (P.cond (P.inb (P.wrap IntKind.i64 (P.sub y ((1 : Int)))) (P.len x.snd.snd)) (P.cond (P.inb y (P.len x.snd.snd)) (P.bind (ref06_Less k ((P.get x.snd.snd (P.wrap IntKind.i64 (P.sub y ((1 : Int)))) (((0 : Int), (0 : Int)), [], [])).fst, (P.get x.snd.snd y (((0 : Int), (0 : Int)), [], [])).fst)) fun (r : Bool) => P.cond (P.not r) (some (Sum.inr (Sum.inr false))) (some (Sum.inl (P.wrap IntKind.i64 (P.add y ((1 : Int))))))) none) none) (some (Sum.inl (P.wrap IntKind.i64 (P.add y ((1 : Int)))))))) none)) none) (some (Sum.inr (Sum.inl PUnit.unit)))) ((0 : Int))) (P.either (fun (z : PUnit) => P.cond (P.not x.fst) (some true) (P.cond (P.ieq (P.len x.snd.fst) ((0 : Int))) (some (P.ieq (P.len x.snd.snd) ((0 : Int)))) (some false))) fun (r : Bool) => some r)) fun (r : Bool) => some r)
theorem ref08_May_eq (k : Nat) (x : (Ty.D T_api_State)) : evFn (EN k [(16, ⟨(.slice T_api_Atom), .bool, ref06_May k⟩), (32, ⟨T_api_Atom, .bool, ref08_Place k⟩), (41, ⟨T_api_Shape, .bool, ref07_May k⟩), (42, ⟨(.pair T_api_Atom T_api_Atom), .bool, ref06_Less k⟩)]) 6 Try.f21 [(2, ⟨[.var 3 (.d (.int .i64))], [], (some (0, []))⟩), (7, ⟨[.var 4 (.d (.int .i64))], [], (some (2, []))⟩)] T_api_State .bool x = ref08_May k x := by kernel_rfl
theorem ref08_May_spec (k : Nat) : SpecOk Try.prog GG 21 ⟨T_api_State, .bool, ref08_May k⟩ :=
  fn_spec (envOk (E := EN k [(16, ⟨(.slice T_api_Atom), .bool, ref06_May k⟩), (32, ⟨T_api_Atom, .bool, ref08_Place k⟩), (41, ⟨T_api_Shape, .bool, ref07_May k⟩), (42, ⟨(.pair T_api_Atom T_api_Atom), .bool, ref06_Less k⟩)]) tabOk (.cons (ref06_May_spec k) f16_at f16_ok <| .cons (ref08_Place_spec k) f32_at f32_ok <| .cons (ref07_May_spec k) f41_at f41_ok <| .cons (ref06_Less_spec k) f42_at f42_ok <| .nil) codesOk mixedOk (fun _ _ _ _ => trivial) (hi := inplOk) (hmp := mapsOk)) f21_at (fun x => (ref08_May_eq k x).symm)
noncomputable def ref07_Within : (k : Nat) → (Ty.D (.pair T_api_Shape T_api_Shape)) → Option (Ty.D .bool) := fun (k : Nat) (x : (T_api_Shape.pair T_api_Shape).D) => P.bind (ref07_May k x.fst) fun (r : Bool) => P.cond (P.not r) (some false) (P.bind (ref07_May k x.snd) fun (r : Bool) => P.cond (P.not r) (some false) (P.bind (ref06_Within k (x.fst.snd, x.snd.snd)) fun (r : Bool) => P.cond (P.not r) (some false) (P.bind (P.iter k (fun (y : Int) => P.cond (P.ilt y (P.len x.fst.fst)) (P.cond (P.inb y (P.len x.fst.fst)) (P.bind (ref07_Get k (x.snd, (P.get x.fst.fst y ((ByteArray.mk #[]), false, [])).fst)) fun (r : (ByteArray × Bool × List (Int × Int)) × Bool) => P.cond (P.not r.snd) (some (Sum.inr (Sum.inr false))) (P.cond (P.inb y (P.len x.fst.fst)) (P.bind (ref06_Within k ((P.get x.fst.fst y ((ByteArray.mk #[]), false, [])).snd.snd, r.fst.snd.snd)) fun (r_1 : Bool) => P.cond (P.not r_1) (some (Sum.inr (Sum.inr false))) (P.cond r.fst.snd.fst (P.cond (P.inb y (P.len x.fst.fst)) (P.cond (P.not (P.get x.fst.fst y ((ByteArray.mk #[]), false, [])).snd.fst) (some (Sum.inr (Sum.inr false))) (some (Sum.inl (P.wrap IntKind.i64 (P.add y ((1 : Int))))))) none) (some (Sum.inl (P.wrap IntKind.i64 (P.add y ((1 : Int)))))))) none)) none) (some (Sum.inr (Sum.inl PUnit.unit)))) ((0 : Int))) (P.either (fun (z : PUnit) => P.bind (P.iter k (fun (y : Int) => P.cond (P.ilt y (P.len x.snd.fst)) (P.cond (P.inb y (P.len x.snd.fst)) (P.bind (ref07_Get k (x.fst, (P.get x.snd.fst y ((ByteArray.mk #[]), false, [])).fst)) fun (r : (ByteArray × Bool × List (Int × Int)) × Bool) => P.cond (P.inb y (P.len x.snd.fst)) (P.cond (P.get x.snd.fst y ((ByteArray.mk #[]), false, [])).snd.fst (P.cond (P.not r.snd) (some (Sum.inr (Sum.inr false))) (some (Sum.inl (P.wrap IntKind.i64 (P.add y ((1 : Int))))))) (some (Sum.inl (P.wrap IntKind.i64 (P.add y ((1 : Int))))))) none) none) (some (Sum.inr (Sum.inl PUnit.unit)))) ((0 : Int))) (P.either (fun (z : PUnit) => some true) fun (r : Bool) => some r)) fun (r : Bool) => some r))))
theorem ref07_Within_eq (k : Nat) (x : (Ty.D (.pair T_api_Shape T_api_Shape))) : evFn (EN k [(18, ⟨(.pair (.slice T_api_Atom) (.slice T_api_Atom)), .bool, ref06_Within k⟩), (23, ⟨(.pair T_api_Shape .str), (.pair T_api_Field .bool), ref07_Get k⟩), (41, ⟨T_api_Shape, .bool, ref07_May k⟩)]) 6 Try.f37 [(4, ⟨[.var 5 (.d (.int .i64))], [], (some (0, []))⟩), (10, ⟨[.var 8 (.d (.int .i64))], [], (some (2, []))⟩)] (.pair T_api_Shape T_api_Shape) .bool x = ref07_Within k x := by kernel_rfl
theorem ref07_Within_spec (k : Nat) : SpecOk Try.prog GG 37 ⟨(.pair T_api_Shape T_api_Shape), .bool, ref07_Within k⟩ :=
  fn_spec (envOk (E := EN k [(18, ⟨(.pair (.slice T_api_Atom) (.slice T_api_Atom)), .bool, ref06_Within k⟩), (23, ⟨(.pair T_api_Shape .str), (.pair T_api_Field .bool), ref07_Get k⟩), (41, ⟨T_api_Shape, .bool, ref07_May k⟩)]) tabOk (.cons (ref06_Within_spec k) f18_at f18_ok <| .cons (ref07_Get_spec k) f23_at f23_ok <| .cons (ref07_May_spec k) f41_at f41_ok <| .nil) codesOk mixedOk (fun _ _ _ _ => trivial) (hi := inplOk) (hmp := mapsOk)) f37_at (fun x => (ref07_Within_eq k x).symm)
noncomputable def ref08_Within : (k : Nat) → (Ty.D (.pair T_api_State T_api_State)) → Option (Ty.D .bool) := fun (k : Nat) (x : (T_api_State.pair T_api_State).D) => P.bind (ref08_May k x.fst) fun (r : Bool) => P.cond (P.not r) (some false) (P.bind (ref08_May k x.snd) fun (r : Bool) => P.cond (P.not r) (some false) (P.cond x.fst.fst (some true) (P.cond x.snd.fst (some false) (P.bind (P.iter k (fun (y : Int) => P.cond (P.ilt y (P.len x.fst.snd.fst)) (P.cond (P.inb y (P.len x.fst.snd.fst)) (P.cond (P.inb y (P.len x.fst.snd.fst)) (P.bind (ref08_Var k (x.snd, (P.get x.fst.snd.fst y ((ByteArray.mk #[]), [])).fst)) fun (r : List (Int × Int)) => P.bind (ref06_Within k ((P.get x.fst.snd.fst y ((ByteArray.mk #[]), [])).snd, r)) fun (r : Bool) => P.cond (P.not r) (some (Sum.inr (Sum.inr false))) (some (Sum.inl (P.wrap IntKind.i64 (P.add y ((1 : Int))))))) none) none) (some (Sum.inr (Sum.inl PUnit.unit)))) ((0 : Int))) (P.either (fun (z : PUnit) => P.bind (P.iter k (fun (y : Int) => P.cond (P.ilt y (P.len x.snd.snd.fst)) (P.cond (P.inb y (P.len x.snd.snd.fst)) (P.bind (ref08_Var k (x.fst, (P.get x.snd.snd.fst y ((ByteArray.mk #[]), [])).fst)) fun (r : List (Int × Int)) => P.cond (P.inb y (P.len x.snd.snd.fst)) (P.bind (ref06_Within k (r, (P.get x.snd.snd.fst y ((ByteArray.mk #[]), [])).snd)) fun (r : Bool) => P.cond (P.not r) (some (Sum.inr (Sum.inr false))) (some (Sum.inl (P.wrap IntKind.i64 (P.add y ((1 : Int))))))) none) none) (some (Sum.inr (Sum.inl PUnit.unit)))) ((0 : Int))) (P.either (fun (z : PUnit) => P.bind (P.iter k (fun (y : Int) => P.cond (P.ilt y (P.len x.fst.snd.snd)) (P.cond (P.inb y (P.len x.fst.snd.snd)) (P.bind (ref08_Loc k (x.snd, (P.get x.fst.snd.snd y (((0 : Int), (0 : Int)), [], [])).fst)) fun (r : (List (ByteArray × Bool × List (Int × Int)) × List (Int × Int)) × Bool) => P.cond (P.not r.snd) (some (Sum.inr (Sum.inr false))) (P.cond (P.inb y (P.len x.fst.snd.snd)) (P.bind (ref07_Within k ((P.get x.fst.snd.snd y (((0 : Int), (0 : Int)), [], [])).snd, r.fst)) fun (r : Bool) => P.cond (P.not r) (some (Sum.inr (Sum.inr false))) (some (Sum.inl (P.wrap IntKind.i64 (P.add y ((1 : Int))))))) none)) none) (some (Sum.inr (Sum.inl PUnit.unit)))) ((0 : Int))) (P.either (fun (z : PUnit) => some true) fun (r : Bool) => some r)) fun (r : Bool) => some r)) fun (r : Bool) => some r)))))
theorem ref08_Within_eq (k : Nat) (x : (Ty.D (.pair T_api_State T_api_State))) : evFn (EN k [(18, ⟨(.pair (.slice T_api_Atom) (.slice T_api_Atom)), .bool, ref06_Within k⟩), (20, ⟨(.pair T_api_State .str), (.slice T_api_Atom), ref08_Var k⟩), (21, ⟨T_api_State, .bool, ref08_May k⟩), (22, ⟨(.pair T_api_State T_api_Atom), (.pair T_api_Shape .bool), ref08_Loc k⟩), (37, ⟨(.pair T_api_Shape T_api_Shape), .bool, ref07_Within k⟩)]) 6 Try.f17 [(8, ⟨[.var 5 (.d (.int .i64))], [], (some (0, []))⟩), (13, ⟨[.var 6 (.d (.int .i64))], [], (some (2, []))⟩), (18, ⟨[.var 7 (.d (.int .i64))], [], (some (4, []))⟩)] (.pair T_api_State T_api_State) .bool x = ref08_Within k x := by kernel_rfl
theorem ref08_Within_spec (k : Nat) : SpecOk Try.prog GG 17 ⟨(.pair T_api_State T_api_State), .bool, ref08_Within k⟩ :=
  fn_spec (envOk (E := EN k [(18, ⟨(.pair (.slice T_api_Atom) (.slice T_api_Atom)), .bool, ref06_Within k⟩), (20, ⟨(.pair T_api_State .str), (.slice T_api_Atom), ref08_Var k⟩), (21, ⟨T_api_State, .bool, ref08_May k⟩), (22, ⟨(.pair T_api_State T_api_Atom), (.pair T_api_Shape .bool), ref08_Loc k⟩), (37, ⟨(.pair T_api_Shape T_api_Shape), .bool, ref07_Within k⟩)]) tabOk (.cons (ref06_Within_spec k) f18_at f18_ok <| .cons (ref08_Var_spec k) f20_at f20_ok <| .cons (ref08_May_spec k) f21_at f21_ok <| .cons (ref08_Loc_spec k) f22_at f22_ok <| .cons (ref07_Within_spec k) f37_at f37_ok <| .nil) codesOk mixedOk (fun _ _ _ _ => trivial) (hi := inplOk) (hmp := mapsOk)) f17_at (fun x => (ref08_Within_eq k x).symm)
noncomputable def law10_LookupRises : (k : Nat) → (Ty.D (.pair T_api_State (.pair T_api_State T_proteanlaw10_Ask))) → Option (Ty.D .bool) := fun (k : Nat) (x : (T_api_State.pair (T_api_State.pair T_proteanlaw10_Ask)).D) => P.bind (law10_fixed k PUnit.unit) fun (r : Bool) => P.cond (P.not r) (P.bind (law10_fixed k PUnit.unit) fun (r : Bool) => some r) (P.bind (ref08_Small k x.fst) fun (r : Bool) => P.cond (P.not r) (P.bind (law10_fixed k PUnit.unit) fun (r : Bool) => some r) (P.bind (ref08_Small k x.snd.fst) fun (r : Bool) => P.cond (P.not r) (P.bind (law10_fixed k PUnit.unit) fun (r : Bool) => some r) (P.cond (P.ilt ((40 : Int)) (P.len x.snd.snd.fst)) (P.bind (law10_fixed k PUnit.unit) fun (r : Bool) => some r) (P.bind (ref06_May k x.snd.snd.fst) fun (r : Bool) => P.cond (P.not r) (P.bind (law10_fixed k PUnit.unit) fun (r : Bool) => some r) (P.cond x.fst.fst (P.bind (law10_fixed k PUnit.unit) fun (r : Bool) => some r) (P.bind (ref08_Within k (x.fst, x.snd.fst)) fun (r : Bool) => P.cond (P.not r) (P.bind (law10_fixed k PUnit.unit) fun (r : Bool) => some r) (P.bind (lookup_Find k (x.fst, x.snd.snd.fst, x.snd.snd.snd)) fun (r : List (Int × Int) × Bool × Bool × Bool) => P.bind (lookup_Find k (x.snd.fst, x.snd.snd.fst, x.snd.snd.snd)) fun (r_1 : List (Int × Int) × Bool × Bool × Bool) => P.bind (lookup_Reach k (x.fst, x.snd.snd.fst, x.snd.snd.snd)) fun (r_2 : List (Int × Int)) => P.bind (lookup_Reach k (x.snd.fst, x.snd.snd.fst, x.snd.snd.snd)) fun (r_3 : List (Int × Int)) => P.bind (ref06_Within k (r_2, r_3)) fun (r_4 : Bool) => P.cond (P.not r_4) (some false) (P.bind (ref06_Within k (r.fst, r_1.fst)) fun (r_5 : Bool) => P.cond (P.not r_5) (some false) (P.cond r.snd.fst (P.cond (P.not r_1.snd.fst) (some false) (P.cond r.snd.snd.snd (P.cond (P.not r_1.snd.snd.snd) (some false) (P.cond r_1.snd.snd.fst (P.cond (P.not r.snd.snd.fst) (some false) (P.bind (ref08_Var k (x.snd.fst, x.snd.snd.snd)) fun (r : List (Int × Int)) => P.bind (ref06_Union k (x.snd.snd.fst, r)) fun (r : List (Int × Int)) => P.bind (lookup_Find k (x.snd.fst, r, x.snd.snd.snd)) fun (r : List (Int × Int) × Bool × Bool × Bool) => P.bind (ref08_Var k (x.snd.fst, x.snd.snd.snd)) fun (r_6 : List (Int × Int)) => P.bind (lookup_Find k (x.snd.fst, r_6, x.snd.snd.snd)) fun (r_7 : List (Int × Int) × Bool × Bool × Bool) => P.bind (ref06_Union k (r_1.fst, r_7.fst)) fun (r_8 : List (Int × Int)) => P.bind (ref06_Same k (r.fst, r_8)) fun (r_9 : Bool) => P.cond r_9 (P.cond r_1.snd.snd.fst (P.cond (P.beq r.snd.snd.fst r_7.snd.snd.fst) (P.cond r_1.snd.fst (P.cond (P.beq r.snd.fst true) (P.cond r_1.snd.snd.snd (some (P.beq r.snd.snd.snd true)) (some (P.beq r.snd.snd.snd r_7.snd.snd.snd))) (some false)) (P.cond (P.beq r.snd.fst r_7.snd.fst) (P.cond r_1.snd.snd.snd (some (P.beq r.snd.snd.snd true)) (some (P.beq r.snd.snd.snd r_7.snd.snd.snd))) (some false))) (some false)) (P.cond (P.beq r.snd.snd.fst false) (P.cond r_1.snd.fst (P.cond (P.beq r.snd.fst true) (P.cond r_1.snd.snd.snd (some (P.beq r.snd.snd.snd true)) (some (P.beq r.snd.snd.snd r_7.snd.snd.snd))) (some false)) (P.cond (P.beq r.snd.fst r_7.snd.fst) (P.cond r_1.snd.snd.snd (some (P.beq r.snd.snd.snd true)) (some (P.beq r.snd.snd.snd r_7.snd.snd.snd))) (some false))) (some false))) (some false))) (P.bind (ref08_Var k (x.snd.fst, x.snd.snd.snd)) fun (r : List (Int × Int)) => P.bind (ref06_Union k (x.snd.snd.fst, r)) fun (r : List (Int × Int)) => P.bind (lookup_Find k (x.snd.fst, r, x.snd.snd.snd)) fun (r : List (Int × Int) × Bool × Bool × Bool) => P.bind (ref08_Var k (x.snd.fst, x.snd.snd.snd)) fun (r_6 : List (Int × Int)) => P.bind (lookup_Find k (x.snd.fst, r_6, x.snd.snd.snd)) fun (r_7 : List (Int × Int) × Bool × Bool × Bool) => P.bind (ref06_Union k (r_1.fst, r_7.fst)) fun (r_8 : List (Int × Int)) => P.bind (ref06_Same k (r.fst, r_8)) fun (r_9 : Bool) => P.cond r_9 (P.cond r_1.snd.snd.fst (P.cond (P.beq r.snd.snd.fst r_7.snd.snd.fst) (P.cond r_1.snd.fst (P.cond (P.beq r.snd.fst true) (P.cond r_1.snd.snd.snd (some (P.beq r.snd.snd.snd true)) (some (P.beq r.snd.snd.snd r_7.snd.snd.snd))) (some false)) (P.cond (P.beq r.snd.fst r_7.snd.fst) (P.cond r_1.snd.snd.snd (some (P.beq r.snd.snd.snd true)) (some (P.beq r.snd.snd.snd r_7.snd.snd.snd))) (some false))) (some false)) (P.cond (P.beq r.snd.snd.fst false) (P.cond r_1.snd.fst (P.cond (P.beq r.snd.fst true) (P.cond r_1.snd.snd.snd (some (P.beq r.snd.snd.snd true)) (some (P.beq r.snd.snd.snd r_7.snd.snd.snd))) (some false)) (P.cond (P.beq r.snd.fst r_7.snd.fst) (P.cond r_1.snd.snd.snd (some (P.beq r.snd.snd.snd true)) (some (P.beq r.snd.snd.snd r_7.snd.snd.snd))) (some false))) (some false))) (some false)))) (P.cond r_1.snd.snd.fst (P.cond (P.not r.snd.snd.fst) (some false) (P.bind (ref08_Var k (x.snd.fst, x.snd.snd.snd)) fun (r : List (Int × Int)) => P.bind (ref06_Union k (x.snd.snd.fst, r)) fun (r : List (Int × Int)) => P.bind (lookup_Find k (x.snd.fst, r, x.snd.snd.snd)) fun (r : List (Int × Int) × Bool × Bool × Bool) => P.bind (ref08_Var k (x.snd.fst, x.snd.snd.snd)) fun (r_6 : List (Int × Int)) => P.bind (lookup_Find k (x.snd.fst, r_6, x.snd.snd.snd)) fun (r_7 : List (Int × Int) × Bool × Bool × Bool) => P.bind (ref06_Union k (r_1.fst, r_7.fst)) fun (r_8 : List (Int × Int)) => P.bind (ref06_Same k (r.fst, r_8)) fun (r_9 : Bool) => P.cond r_9 (P.cond r_1.snd.snd.fst (P.cond (P.beq r.snd.snd.fst r_7.snd.snd.fst) (P.cond r_1.snd.fst (P.cond (P.beq r.snd.fst true) (P.cond r_1.snd.snd.snd (some (P.beq r.snd.snd.snd true)) (some (P.beq r.snd.snd.snd r_7.snd.snd.snd))) (some false)) (P.cond (P.beq r.snd.fst r_7.snd.fst) (P.cond r_1.snd.snd.snd (some (P.beq r.snd.snd.snd true)) (some (P.beq r.snd.snd.snd r_7.snd.snd.snd))) (some false))) (some false)) (P.cond (P.beq r.snd.snd.fst false) (P.cond r_1.snd.fst (P.cond (P.beq r.snd.fst true) (P.cond r_1.snd.snd.snd (some (P.beq r.snd.snd.snd true)) (some (P.beq r.snd.snd.snd r_7.snd.snd.snd))) (some false)) (P.cond (P.beq r.snd.fst r_7.snd.fst) (P.cond r_1.snd.snd.snd (some (P.beq r.snd.snd.snd true)) (some (P.beq r.snd.snd.snd r_7.snd.snd.snd))) (some false))) (some false))) (some false))) (P.bind (ref08_Var k (x.snd.fst, x.snd.snd.snd)) fun (r : List (Int × Int)) => P.bind (ref06_Union k (x.snd.snd.fst, r)) fun (r : List (Int × Int)) => P.bind (lookup_Find k (x.snd.fst, r, x.snd.snd.snd)) fun (r : List (Int × Int) × Bool × Bool × Bool) => P.bind (ref08_Var k (x.snd.fst, x.snd.snd.snd)) fun (r_6 : List (Int × Int)) => P.bind (lookup_Find k (x.snd.fst, r_6, x.snd.snd.snd)) fun (r_7 : List (Int × Int) × Bool × Bool × Bool) => P.bind (ref06_Union k (r_1.fst, r_7.fst)) fun (r_8 : List (Int × Int)) => P.bind (ref06_Same k (r.fst, r_8)) fun (r_9 : Bool) => P.cond r_9 (P.cond r_1.snd.snd.fst (P.cond (P.beq r.snd.snd.fst r_7.snd.snd.fst) (P.cond r_1.snd.fst (P.cond (P.beq r.snd.fst true) (P.cond r_1.snd.snd.snd (some (P.beq r.snd.snd.snd true)) (some (P.beq r.snd.snd.snd r_7.snd.snd.snd))) (some false)) (P.cond (P.beq r.snd.fst r_7.snd.fst) (P.cond r_1.snd.snd.snd (some (P.beq r.snd.snd.snd true)) (some (P.beq r.snd.snd.snd r_7.snd.snd.snd))) (some false))) (some false)) (P.cond (P.beq r.snd.snd.fst false) (P.cond r_1.snd.fst (P.cond (P.beq r.snd.fst true) (P.cond r_1.snd.snd.snd (some (P.beq r.snd.snd.snd true)) (some (P.beq r.snd.snd.snd r_7.snd.snd.snd))) (some false)) (P.cond (P.beq r.snd.fst r_7.snd.fst) (P.cond r_1.snd.snd.snd (some (P.beq r.snd.snd.snd true)) (some (P.beq r.snd.snd.snd r_7.snd.snd.snd))) (some false))) (some false))) (some false))))) (P.cond r.snd.snd.snd (P.cond (P.not r_1.snd.snd.snd) (some false) (P.cond r_1.snd.snd.fst (P.cond (P.not r.snd.snd.fst) (some false) (P.bind (ref08_Var k (x.snd.fst, x.snd.snd.snd)) fun (r : List (Int × Int)) => P.bind (ref06_Union k (x.snd.snd.fst, r)) fun (r : List (Int × Int)) => P.bind (lookup_Find k (x.snd.fst, r, x.snd.snd.snd)) fun (r : List (Int × Int) × Bool × Bool × Bool) => P.bind (ref08_Var k (x.snd.fst, x.snd.snd.snd)) fun (r_6 : List (Int × Int)) => P.bind (lookup_Find k (x.snd.fst, r_6, x.snd.snd.snd)) fun (r_7 : List (Int × Int) × Bool × Bool × Bool) => P.bind (ref06_Union k (r_1.fst, r_7.fst)) fun (r_8 : List (Int × Int)) => P.bind (ref06_Same k (r.fst, r_8)) fun (r_9 : Bool) => P.cond r_9 (P.cond r_1.snd.snd.fst (P.cond (P.beq r.snd.snd.fst r_7.snd.snd.fst) (P.cond r_1.snd.fst (P.cond (P.beq r.snd.fst true) (P.cond r_1.snd.snd.snd (some (P.beq r.snd.snd.snd true)) (some (P.beq r.snd.snd.snd r_7.snd.snd.snd))) (some false)) (P.cond (P.beq r.snd.fst r_7.snd.fst) (P.cond r_1.snd.snd.snd (some (P.beq r.snd.snd.snd true)) (some (P.beq r.snd.snd.snd r_7.snd.snd.snd))) (some false))) (some false)) (P.cond (P.beq r.snd.snd.fst false) (P.cond r_1.snd.fst (P.cond (P.beq r.snd.fst true) (P.cond r_1.snd.snd.snd (some (P.beq r.snd.snd.snd true)) (some (P.beq r.snd.snd.snd r_7.snd.snd.snd))) (some false)) (P.cond (P.beq r.snd.fst r_7.snd.fst) (P.cond r_1.snd.snd.snd (some (P.beq r.snd.snd.snd true)) (some (P.beq r.snd.snd.snd r_7.snd.snd.snd))) (some false))) (some false))) (some false))) (P.bind (ref08_Var k (x.snd.fst, x.snd.snd.snd)) fun (r : List (Int × Int)) => P.bind (ref06_Union k (x.snd.snd.fst, r)) fun (r : List (Int × Int)) => P.bind (lookup_Find k (x.snd.fst, r, x.snd.snd.snd)) fun (r : List (Int × Int) × Bool × Bool × Bool) => P.bind (ref08_Var k (x.snd.fst, x.snd.snd.snd)) fun (r_6 : List (Int × Int)) => P.bind (lookup_Find k (x.snd.fst, r_6, x.snd.snd.snd)) fun (r_7 : List (Int × Int) × Bool × Bool × Bool) => P.bind (ref06_Union k (r_1.fst, r_7.fst)) fun (r_8 : List (Int × Int)) => P.bind (ref06_Same k (r.fst, r_8)) fun (r_9 : Bool) => P.cond r_9 (P.cond r_1.snd.snd.fst (P.cond (P.beq r.snd.snd.fst r_7.snd.snd.fst) (P.cond r_1.snd.fst (P.cond (P.beq r.snd.fst true) (P.cond r_1.snd.snd.snd (some (P.beq r.snd.snd.snd true)) (some (P.beq r.snd.snd.snd r_7.snd.snd.snd))) (some false)) (P.cond (P.beq r.snd.fst r_7.snd.fst) (P.cond r_1.snd.snd.snd (some (P.beq r.snd.snd.snd true)) (some (P.beq r.snd.snd.snd r_7.snd.snd.snd))) (some false))) (some false)) (P.cond (P.beq r.snd.snd.fst false) (P.cond r_1.snd.fst (P.cond (P.beq r.snd.fst true) (P.cond r_1.snd.snd.snd (some (P.beq r.snd.snd.snd true)) (some (P.beq r.snd.snd.snd r_7.snd.snd.snd))) (some false)) (P.cond (P.beq r.snd.fst r_7.snd.fst) (P.cond r_1.snd.snd.snd (some (P.beq r.snd.snd.snd true)) (some (P.beq r.snd.snd.snd r_7.snd.snd.snd))) (some false))) (some false))) (some false)))) (P.cond r_1.snd.snd.fst (P.cond (P.not r.snd.snd.fst) (some false) (P.bind (ref08_Var k (x.snd.fst, x.snd.snd.snd)) fun (r : List (Int × Int)) => P.bind (ref06_Union k (x.snd.snd.fst, r)) fun (r : List (Int × Int)) => P.bind (lookup_Find k (x.snd.fst, r, x.snd.snd.snd)) fun (r : List (Int × Int) × Bool × Bool × Bool) => P.bind (ref08_Var k (x.snd.fst, x.snd.snd.snd)) fun (r_6 : List (Int × Int)) => P.bind (lookup_Find k (x.snd.fst, r_6, x.snd.snd.snd)) fun (r_7 : List (Int × Int) × Bool × Bool × Bool) => P.bind (ref06_Union k (r_1.fst, r_7.fst)) fun (r_8 : List (Int × Int)) => P.bind (ref06_Same k (r.fst, r_8)) fun (r_9 : Bool) => P.cond r_9 (P.cond r_1.snd.snd.fst (P.cond (P.beq r.snd.snd.fst r_7.snd.snd.fst) (P.cond r_1.snd.fst (P.cond (P.beq r.snd.fst true) (P.cond r_1.snd.snd.snd (some (P.beq r.snd.snd.snd true)) (some (P.beq r.snd.snd.snd r_7.snd.snd.snd))) (some false)) (P.cond (P.beq r.snd.fst r_7.snd.fst) (P.cond r_1.snd.snd.snd (some (P.beq r.snd.snd.snd true)) (some (P.beq r.snd.snd.snd r_7.snd.snd.snd))) (some false))) (some false)) (P.cond (P.beq r.snd.snd.fst false) (P.cond r_1.snd.fst (P.cond (P.beq r.snd.fst true) (P.cond r_1.snd.snd.snd (some (P.beq r.snd.snd.snd true)) (some (P.beq r.snd.snd.snd r_7.snd.snd.snd))) (some false)) (P.cond (P.beq r.snd.fst r_7.snd.fst) (P.cond r_1.snd.snd.snd (some (P.beq r.snd.snd.snd true)) (some (P.beq r.snd.snd.snd r_7.snd.snd.snd))) (some false))) (some false))) (some false))) (P.bind (ref08_Var k (x.snd.fst, x.snd.snd.snd)) fun (r : List (Int × Int)) => P.bind (ref06_Union k (x.snd.snd.fst, r)) fun (r : List (Int × Int)) => P.bind (lookup_Find k (x.snd.fst, r, x.snd.snd.snd)) fun (r : List (Int × Int) × Bool × Bool × Bool) => P.bind (ref08_Var k (x.snd.fst, x.snd.snd.snd)) fun (r_6 : List (Int × Int)) => P.bind (lookup_Find k (x.snd.fst, r_6, x.snd.snd.snd)) fun (r_7 : List (Int × Int) × Bool × Bool × Bool) => P.bind (ref06_Union k (r_1.fst, r_7.fst)) fun (r_8 : List (Int × Int)) => P.bind (ref06_Same k (r.fst, r_8)) fun (r_9 : Bool) => P.cond r_9 (P.cond r_1.snd.snd.fst (P.cond (P.beq r.snd.snd.fst r_7.snd.snd.fst) (P.cond r_1.snd.fst (P.cond (P.beq r.snd.fst true) (P.cond r_1.snd.snd.snd (some (P.beq r.snd.snd.snd true)) (some (P.beq r.snd.snd.snd r_7.snd.snd.snd))) (some false)) (P.cond (P.beq r.snd.fst r_7.snd.fst) (P.cond r_1.snd.snd.snd (some (P.beq r.snd.snd.snd true)) (some (P.beq r.snd.snd.snd r_7.snd.snd.snd))) (some false))) (some false)) (P.cond (P.beq r.snd.snd.fst false) (P.cond r_1.snd.fst (P.cond (P.beq r.snd.fst true) (P.cond r_1.snd.snd.snd (some (P.beq r.snd.snd.snd true)) (some (P.beq r.snd.snd.snd r_7.snd.snd.snd))) (some false)) (P.cond (P.beq r.snd.fst r_7.snd.fst) (P.cond r_1.snd.snd.snd (some (P.beq r.snd.snd.snd true)) (some (P.beq r.snd.snd.snd r_7.snd.snd.snd))) (some false))) (some false))) (some false)))))))))))))
theorem law10_LookupRises_eq (k : Nat) (x : (Ty.D (.pair T_api_State (.pair T_api_State T_proteanlaw10_Ask)))) : evFn (EN k [(8, ⟨T_api_State, .bool, ref08_Small k⟩), (9, ⟨.unit, .bool, law10_fixed k⟩), (10, ⟨(.pair (.slice T_api_Atom) (.slice T_api_Atom)), .bool, ref06_Same k⟩), (11, ⟨(.pair T_api_State (.pair (.slice T_api_Atom) .str)), (.slice T_api_Atom), lookup_Reach k⟩), (14, ⟨(.pair T_api_State (.pair (.slice T_api_Atom) .str)), T_api_Found, lookup_Find k⟩), (16, ⟨(.slice T_api_Atom), .bool, ref06_May k⟩), (17, ⟨(.pair T_api_State T_api_State), .bool, ref08_Within k⟩), (18, ⟨(.pair (.slice T_api_Atom) (.slice T_api_Atom)), .bool, ref06_Within k⟩), (19, ⟨(.pair (.slice T_api_Atom) (.slice T_api_Atom)), (.slice T_api_Atom), ref06_Union k⟩), (20, ⟨(.pair T_api_State .str), (.slice T_api_Atom), ref08_Var k⟩)]) 6 Try.f4 [] (.pair T_api_State (.pair T_api_State T_proteanlaw10_Ask)) .bool x = law10_LookupRises k x := by kernel_rfl
theorem law10_LookupRises_spec (k : Nat) : SpecOk Try.prog GG 4 ⟨(.pair T_api_State (.pair T_api_State T_proteanlaw10_Ask)), .bool, law10_LookupRises k⟩ :=
  fn_spec (envOk (E := EN k [(8, ⟨T_api_State, .bool, ref08_Small k⟩), (9, ⟨.unit, .bool, law10_fixed k⟩), (10, ⟨(.pair (.slice T_api_Atom) (.slice T_api_Atom)), .bool, ref06_Same k⟩), (11, ⟨(.pair T_api_State (.pair (.slice T_api_Atom) .str)), (.slice T_api_Atom), lookup_Reach k⟩), (14, ⟨(.pair T_api_State (.pair (.slice T_api_Atom) .str)), T_api_Found, lookup_Find k⟩), (16, ⟨(.slice T_api_Atom), .bool, ref06_May k⟩), (17, ⟨(.pair T_api_State T_api_State), .bool, ref08_Within k⟩), (18, ⟨(.pair (.slice T_api_Atom) (.slice T_api_Atom)), .bool, ref06_Within k⟩), (19, ⟨(.pair (.slice T_api_Atom) (.slice T_api_Atom)), (.slice T_api_Atom), ref06_Union k⟩), (20, ⟨(.pair T_api_State .str), (.slice T_api_Atom), ref08_Var k⟩)]) tabOk (.cons (ref08_Small_spec k) f8_at f8_ok <| .cons (law10_fixed_spec k) f9_at f9_ok <| .cons (ref06_Same_spec k) f10_at f10_ok <| .cons (lookup_Reach_spec k) f11_at f11_ok <| .cons (lookup_Find_spec k) f14_at f14_ok <| .cons (ref06_May_spec k) f16_at f16_ok <| .cons (ref08_Within_spec k) f17_at f17_ok <| .cons (ref06_Within_spec k) f18_at f18_ok <| .cons (ref06_Union_spec k) f19_at f19_ok <| .cons (ref08_Var_spec k) f20_at f20_ok <| .nil) codesOk mixedOk (fun _ _ _ _ => trivial) (hi := inplOk) (hmp := mapsOk)) f4_at (fun x => (law10_LookupRises_eq k x).symm)
noncomputable def law10_LookupOwn : (k : Nat) → (Ty.D (.pair T_api_State (.pair T_api_Atom .str))) → Option (Ty.D .bool) := fun (k : Nat) (x : (T_api_State.pair (T_api_Atom.pair Ty.str)).D) => P.bind (law10_fixed k PUnit.unit) fun (r : Bool) => P.cond (P.not r) (P.bind (law10_fixed k PUnit.unit) fun (r : Bool) => some r) (P.bind (ref08_Small k x.fst) fun (r : Bool) => P.cond (P.not r) (P.bind (law10_fixed k PUnit.unit) fun (r : Bool) => some r) (P.bind (ref08_May k x.fst) fun (r : Bool) => P.cond (P.not r) (P.bind (law10_fixed k PUnit.unit) fun (r : Bool) => some r) (P.bind (ref08_Loc k (x.fst, x.snd.fst)) fun (r : (List (ByteArray × Bool × List (Int × Int)) × List (Int × Int)) × Bool) => P.bind (ref07_Get k (r.fst, x.snd.snd)) fun (r_1 : (ByteArray × Bool × List (Int × Int)) × Bool) => P.cond (P.not r.snd) (some true) (P.cond (P.not r_1.snd) (some true) (P.cond (P.not r_1.fst.snd.fst) (some true) (P.bind (lookup_Find k (x.fst, [x.snd.fst], x.snd.snd)) fun (r : List (Int × Int) × Bool × Bool × Bool) => P.bind (lookup_Reach k (x.fst, [x.snd.fst], x.snd.snd)) fun (r_2 : List (Int × Int)) => P.cond r.snd.snd.fst (P.cond r.snd.snd.snd (P.cond (P.not r.snd.fst) (P.bind (ref06_Same k (r.fst, r_1.fst.snd.snd)) fun (r : Bool) => P.cond r (P.bind (ref06_Same k (r_2, [x.snd.fst])) fun (r : Bool) => some r) (some false)) (some false)) (some false)) (some false)))))))
theorem law10_LookupOwn_eq (k : Nat) (x : (Ty.D (.pair T_api_State (.pair T_api_Atom .str)))) : evFn (EN k [(8, ⟨T_api_State, .bool, ref08_Small k⟩), (9, ⟨.unit, .bool, law10_fixed k⟩), (10, ⟨(.pair (.slice T_api_Atom) (.slice T_api_Atom)), .bool, ref06_Same k⟩), (11, ⟨(.pair T_api_State (.pair (.slice T_api_Atom) .str)), (.slice T_api_Atom), lookup_Reach k⟩), (14, ⟨(.pair T_api_State (.pair (.slice T_api_Atom) .str)), T_api_Found, lookup_Find k⟩), (21, ⟨T_api_State, .bool, ref08_May k⟩), (22, ⟨(.pair T_api_State T_api_Atom), (.pair T_api_Shape .bool), ref08_Loc k⟩), (23, ⟨(.pair T_api_Shape .str), (.pair T_api_Field .bool), ref07_Get k⟩)]) 6 Try.f5 [] (.pair T_api_State (.pair T_api_Atom .str)) .bool x = law10_LookupOwn k x := by kernel_rfl
theorem law10_LookupOwn_spec (k : Nat) : SpecOk Try.prog GG 5 ⟨(.pair T_api_State (.pair T_api_Atom .str)), .bool, law10_LookupOwn k⟩ :=
  fn_spec (envOk (E := EN k [(8, ⟨T_api_State, .bool, ref08_Small k⟩), (9, ⟨.unit, .bool, law10_fixed k⟩), (10, ⟨(.pair (.slice T_api_Atom) (.slice T_api_Atom)), .bool, ref06_Same k⟩), (11, ⟨(.pair T_api_State (.pair (.slice T_api_Atom) .str)), (.slice T_api_Atom), lookup_Reach k⟩), (14, ⟨(.pair T_api_State (.pair (.slice T_api_Atom) .str)), T_api_Found, lookup_Find k⟩), (21, ⟨T_api_State, .bool, ref08_May k⟩), (22, ⟨(.pair T_api_State T_api_Atom), (.pair T_api_Shape .bool), ref08_Loc k⟩), (23, ⟨(.pair T_api_Shape .str), (.pair T_api_Field .bool), ref07_Get k⟩)]) tabOk (.cons (ref08_Small_spec k) f8_at f8_ok <| .cons (law10_fixed_spec k) f9_at f9_ok <| .cons (ref06_Same_spec k) f10_at f10_ok <| .cons (lookup_Reach_spec k) f11_at f11_ok <| .cons (lookup_Find_spec k) f14_at f14_ok <| .cons (ref08_May_spec k) f21_at f21_ok <| .cons (ref08_Loc_spec k) f22_at f22_ok <| .cons (ref07_Get_spec k) f23_at f23_ok <| .nil) codesOk mixedOk (fun _ _ _ _ => trivial) (hi := inplOk) (hmp := mapsOk)) f5_at (fun x => (law10_LookupOwn_eq k x).symm)
noncomputable def law10_LookupClosed : (k : Nat) → (Ty.D (.pair T_api_State (.pair (.slice T_api_Atom) .str))) → Option (Ty.D .bool) := fun (k : Nat) (x : (T_api_State.pair (T_api_Atom.slice.pair Ty.str)).D) => P.bind (law10_fixed k PUnit.unit) fun (r : Bool) => P.cond (P.not r) (P.bind (law10_fixed k PUnit.unit) fun (r : Bool) => some r) (P.bind (ref08_Small k x.fst) fun (r : Bool) => P.cond (P.not r) (P.bind (law10_fixed k PUnit.unit) fun (r : Bool) => some r) (P.cond (P.ilt ((40 : Int)) (P.len x.snd.fst)) (P.bind (law10_fixed k PUnit.unit) fun (r : Bool) => some r) (P.bind (ref08_May k x.fst) fun (r : Bool) => P.cond (P.not r) (P.bind (law10_fixed k PUnit.unit) fun (r : Bool) => some r) (P.bind (lookup_Reach k (x.fst, x.snd.fst, x.snd.snd)) fun (r : List (Int × Int)) => P.bind (P.iter k (fun (y : Int) => P.cond (P.ilt y (P.len r)) (P.cond (P.inb y (P.len r)) (P.bind (ref08_Loc k (x.fst, P.get r y ((0 : Int), (0 : Int)))) fun (r_1 : (List (ByteArray × Bool × List (Int × Int)) × List (Int × Int)) × Bool) => P.bind (ref07_Get k (r_1.fst, x.snd.snd)) fun (r_2 : (ByteArray × Bool × List (Int × Int)) × Bool) => P.cond r_1.snd (P.cond (P.not r_2.fst.snd.fst) (P.bind (ref06_Within k (r_1.fst.snd, r)) fun (r : Bool) => P.cond (P.not r) (some (Sum.inr (Sum.inr false))) (some (Sum.inl (P.wrap IntKind.i64 (P.add y ((1 : Int))))))) (some (Sum.inl (P.wrap IntKind.i64 (P.add y ((1 : Int))))))) (some (Sum.inl (P.wrap IntKind.i64 (P.add y ((1 : Int))))))) none) (some (Sum.inr (Sum.inl PUnit.unit)))) ((0 : Int))) (P.either (fun (z : PUnit) => P.bind (lookup_Reach k (x.fst, r, x.snd.snd)) fun (r_1 : List (Int × Int)) => P.bind (ref06_Same k (r_1, r)) fun (r_2 : Bool) => P.cond r_2 (P.bind (ref06_Norm k x.snd.fst) fun (r_3 : List (Int × Int)) => P.bind (ref06_Within k (r_3, r)) fun (r_4 : Bool) => P.cond r_4 (P.bind (ref06_May k r) fun (r : Bool) => some r) (some false)) (some false)) fun (r : Bool) => some r)))))
theorem law10_LookupClosed_eq (k : Nat) (x : (Ty.D (.pair T_api_State (.pair (.slice T_api_Atom) .str)))) : evFn (EN k [(8, ⟨T_api_State, .bool, ref08_Small k⟩), (9, ⟨.unit, .bool, law10_fixed k⟩), (10, ⟨(.pair (.slice T_api_Atom) (.slice T_api_Atom)), .bool, ref06_Same k⟩), (11, ⟨(.pair T_api_State (.pair (.slice T_api_Atom) .str)), (.slice T_api_Atom), lookup_Reach k⟩), (16, ⟨(.slice T_api_Atom), .bool, ref06_May k⟩), (18, ⟨(.pair (.slice T_api_Atom) (.slice T_api_Atom)), .bool, ref06_Within k⟩), (21, ⟨T_api_State, .bool, ref08_May k⟩), (22, ⟨(.pair T_api_State T_api_Atom), (.pair T_api_Shape .bool), ref08_Loc k⟩), (23, ⟨(.pair T_api_Shape .str), (.pair T_api_Field .bool), ref07_Get k⟩), (24, ⟨(.slice T_api_Atom), (.slice T_api_Atom), ref06_Norm k⟩)]) 6 Try.f6 [(5, ⟨[.var 8 (.d (.int .i64))], [], (some (0, []))⟩)] (.pair T_api_State (.pair (.slice T_api_Atom) .str)) .bool x = law10_LookupClosed k x := by kernel_rfl
theorem law10_LookupClosed_spec (k : Nat) : SpecOk Try.prog GG 6 ⟨(.pair T_api_State (.pair (.slice T_api_Atom) .str)), .bool, law10_LookupClosed k⟩ :=
  fn_spec (envOk (E := EN k [(8, ⟨T_api_State, .bool, ref08_Small k⟩), (9, ⟨.unit, .bool, law10_fixed k⟩), (10, ⟨(.pair (.slice T_api_Atom) (.slice T_api_Atom)), .bool, ref06_Same k⟩), (11, ⟨(.pair T_api_State (.pair (.slice T_api_Atom) .str)), (.slice T_api_Atom), lookup_Reach k⟩), (16, ⟨(.slice T_api_Atom), .bool, ref06_May k⟩), (18, ⟨(.pair (.slice T_api_Atom) (.slice T_api_Atom)), .bool, ref06_Within k⟩), (21, ⟨T_api_State, .bool, ref08_May k⟩), (22, ⟨(.pair T_api_State T_api_Atom), (.pair T_api_Shape .bool), ref08_Loc k⟩), (23, ⟨(.pair T_api_Shape .str), (.pair T_api_Field .bool), ref07_Get k⟩), (24, ⟨(.slice T_api_Atom), (.slice T_api_Atom), ref06_Norm k⟩)]) tabOk (.cons (ref08_Small_spec k) f8_at f8_ok <| .cons (law10_fixed_spec k) f9_at f9_ok <| .cons (ref06_Same_spec k) f10_at f10_ok <| .cons (lookup_Reach_spec k) f11_at f11_ok <| .cons (ref06_May_spec k) f16_at f16_ok <| .cons (ref06_Within_spec k) f18_at f18_ok <| .cons (ref08_May_spec k) f21_at f21_ok <| .cons (ref08_Loc_spec k) f22_at f22_ok <| .cons (ref07_Get_spec k) f23_at f23_ok <| .cons (ref06_Norm_spec k) f24_at f24_ok <| .nil) codesOk mixedOk (fun _ _ _ _ => trivial) (hi := inplOk) (hmp := mapsOk)) f6_at (fun x => (law10_LookupClosed_eq k x).symm)
noncomputable def law10_LookupAny : (k : Nat) → (Ty.D (.pair T_api_State (.pair (.slice T_api_Atom) .str))) → Option (Ty.D .bool) := fun (k : Nat) (x : (T_api_State.pair (T_api_Atom.slice.pair Ty.str)).D) => P.bind (law10_fixed k PUnit.unit) fun (r : Bool) => P.cond (P.not r) (P.bind (law10_fixed k PUnit.unit) fun (r : Bool) => some r) (P.bind (ref08_Small k x.fst) fun (r : Bool) => P.cond (P.not r) (P.bind (law10_fixed k PUnit.unit) fun (r : Bool) => some r) (P.cond (P.ilt ((40 : Int)) (P.len x.snd.fst)) (P.bind (law10_fixed k PUnit.unit) fun (r : Bool) => some r) (P.bind (ref08_May k x.fst) fun (r : Bool) => P.cond (P.not r) (P.bind (law10_fixed k PUnit.unit) fun (r : Bool) => some r) (P.bind (ref06_May k x.snd.fst) fun (r : Bool) => P.cond (P.not r) (P.bind (law10_fixed k PUnit.unit) fun (r : Bool) => some r) (P.bind (ref06_Dyn k PUnit.unit) fun (r : List (Int × Int)) => P.bind (ref06_Union k (x.snd.fst, r)) fun (r : List (Int × Int)) => P.bind (lookup_Find k (x.fst, r, x.snd.snd)) fun (r : List (Int × Int) × Bool × Bool × Bool) => P.bind (ref06_Num k PUnit.unit) fun (r_1 : List (Int × Int)) => P.bind (lookup_Find k (x.fst, r_1, x.snd.snd)) fun (r_2 : List (Int × Int) × Bool × Bool × Bool) => P.bind (lookup_Find k (x.fst, [], x.snd.snd)) fun (r_3 : List (Int × Int) × Bool × Bool × Bool) => P.cond r.snd.fst (P.cond (P.not r.snd.snd.fst) (P.cond (P.not r_2.snd.fst) (P.cond (P.not r_2.snd.snd.fst) (P.cond (P.not r_2.snd.snd.snd) (P.cond (P.ieq (P.len r_2.fst) ((0 : Int))) (P.cond r_3.snd.snd.fst (P.cond (P.not r_3.snd.snd.snd) (some (P.not r_3.snd.fst)) (some false)) (some false)) (some false)) (some false)) (some false)) (some false)) (some false)) (some false))))))
theorem law10_LookupAny_eq (k : Nat) (x : (Ty.D (.pair T_api_State (.pair (.slice T_api_Atom) .str)))) : evFn (EN k [(8, ⟨T_api_State, .bool, ref08_Small k⟩), (9, ⟨.unit, .bool, law10_fixed k⟩), (14, ⟨(.pair T_api_State (.pair (.slice T_api_Atom) .str)), T_api_Found, lookup_Find k⟩), (16, ⟨(.slice T_api_Atom), .bool, ref06_May k⟩), (19, ⟨(.pair (.slice T_api_Atom) (.slice T_api_Atom)), (.slice T_api_Atom), ref06_Union k⟩), (21, ⟨T_api_State, .bool, ref08_May k⟩), (25, ⟨.unit, (.slice T_api_Atom), ref06_Dyn k⟩), (26, ⟨.unit, (.slice T_api_Atom), ref06_Num k⟩)]) 6 Try.f7 [] (.pair T_api_State (.pair (.slice T_api_Atom) .str)) .bool x = law10_LookupAny k x := by kernel_rfl
theorem law10_LookupAny_spec (k : Nat) : SpecOk Try.prog GG 7 ⟨(.pair T_api_State (.pair (.slice T_api_Atom) .str)), .bool, law10_LookupAny k⟩ :=
  fn_spec (envOk (E := EN k [(8, ⟨T_api_State, .bool, ref08_Small k⟩), (9, ⟨.unit, .bool, law10_fixed k⟩), (14, ⟨(.pair T_api_State (.pair (.slice T_api_Atom) .str)), T_api_Found, lookup_Find k⟩), (16, ⟨(.slice T_api_Atom), .bool, ref06_May k⟩), (19, ⟨(.pair (.slice T_api_Atom) (.slice T_api_Atom)), (.slice T_api_Atom), ref06_Union k⟩), (21, ⟨T_api_State, .bool, ref08_May k⟩), (25, ⟨.unit, (.slice T_api_Atom), ref06_Dyn k⟩), (26, ⟨.unit, (.slice T_api_Atom), ref06_Num k⟩)]) tabOk (.cons (ref08_Small_spec k) f8_at f8_ok <| .cons (law10_fixed_spec k) f9_at f9_ok <| .cons (lookup_Find_spec k) f14_at f14_ok <| .cons (ref06_May_spec k) f16_at f16_ok <| .cons (ref06_Union_spec k) f19_at f19_ok <| .cons (ref08_May_spec k) f21_at f21_ok <| .cons (ref06_Dyn_spec k) f25_at f25_ok <| .cons (ref06_Num_spec k) f26_at f26_ok <| .nil) codesOk mixedOk (fun _ _ _ _ => trivial) (hi := inplOk) (hmp := mapsOk)) f7_at (fun x => (law10_LookupAny_eq k x).symm)
end
section
/- Plain lemmas on what the evaluator's functions are made of. -/
namespace Go.PL
open Go.PG

theorem cond_eq {α : Type} (b : Bool) (x y : α) : P.cond b x y = if b = true then x else y := by cases b <;> rfl
theorem cond_true {α : Type} (x y : α) : P.cond true x y = x := rfl
theorem cond_false {α : Type} (x y : α) : P.cond false x y = y := rfl
theorem bind_some {α β : Type} (a : α) (f : α → Option β) : P.bind (some a) f = f a := rfl
theorem bind_none {α β : Type} (f : α → Option β) : P.bind none f = none := rfl
theorem either_inl {α β γ : Type} (f : α → γ) (g : β → γ) (a : α) : P.either f g (.inl a) = f a := rfl
theorem either_inr {α β γ : Type} (f : α → γ) (g : β → γ) (b : β) : P.either f g (.inr b) = g b := rfl

/-! ### loops -/
section
variable {τ ρ : Type} {f : τ → Option (τ ⊕ ρ)}
theorem iter_succ (k : Nat) (x : τ) : P.iter (k + 1) f x = match f x with
    | none => none
    | some (.inl y) => P.iter k f y
    | some (.inr r) => some r := rfl
theorem iter_step {k : Nat} {x y : τ} (hk : 0 < k) (h : f x = some (.inl y)) : P.iter k f x = P.iter (k - 1) f y := by
  obtain ⟨k, rfl⟩ : ∃ m, k = m + 1 := ⟨k - 1, by omega⟩
  rw [iter_succ, h]; rfl
theorem iter_done {k : Nat} {x : τ} {r : ρ} (hk : 0 < k) (h : f x = some (.inr r)) : P.iter k f x = some r := by
  obtain ⟨k, rfl⟩ : ∃ m, k = m + 1 := ⟨k - 1, by omega⟩
  rw [iter_succ, h]
/-- A loop that goes through states told ahead. -/
theorem iter_run (s : Nat → τ) (r : ρ) : ∀ (n i k : Nat), n < k → (∀ j, j < n → f (s (i + j)) = some (.inl (s (i + j + 1)))) → f (s (i + n)) = some (.inr r) → P.iter k f (s i) = some r := by
  intro n
  induction n with
  | zero => intro i k hk _ he; exact iter_done (by omega) (by simpa using he)
  | succ n ih =>
    intro i k hk hs he
    rw [iter_step (x := s i) (y := s (i + 1)) (by omega) (by simpa using hs 0 (by omega))]
    refine ih (i + 1) (k - 1) (by omega) (fun j hj => ?_) (by rw [show i + 1 + n = i + (n + 1) by omega]; exact he)
    have := hs (j + 1) (by omega)
    rw [show i + 1 + j = i + (j + 1) by omega]
    exact this
/-- A count from i up to n that ends where something is found. -/
theorem iter_find {f : Int → Option (Int ⊕ ρ)} {n : Nat} {e : ρ} (g : Nat → Option ρ) (hs : ∀ i : Nat, i < n → f (i : Int) = some (match g i with
    | none => .inl ((i + 1 : Nat) : Int)
    | some r => .inr r)) (he : f (n : Int) = some (.inr e)) : ∀ (d i k : Nat), i + d = n → d < k → P.iter k f (i : Int) = some (((List.range' i d).findSome? g).getD e) := by
  intro d
  induction d with
  | zero =>
    intro i k hi hk
    obtain rfl : i = n := by omega
    exact iter_done (by omega) he
  | succ d ih =>
    intro i k hi hk
    have h := hs i (by omega)
    rw [List.range'_succ, List.findSome?_cons]
    cases q : g i with
    | none =>
      rw [q] at h
      simp only at h ⊢
      rw [iter_step (by omega) h]
      exact ih (i + 1) (k - 1) (by omega) (by omega)
    | some r =>
      rw [q] at h
      simp only at h
      rw [iter_done (by omega) h]
      rfl
theorem iter_find0 {f : Int → Option (Int ⊕ ρ)} {n : Nat} {e : ρ} (g : Nat → Option ρ) (k : Nat) (hs : ∀ i : Nat, i < n → f (i : Int) = some (match g i with
    | none => .inl ((i + 1 : Nat) : Int)
    | some r => .inr r)) (he : f (n : Int) = some (.inr e)) (hk : n < k) : P.iter k f 0 = some (((List.range n).findSome? g).getD e) := by
  have := iter_find g hs he n 0 k (by omega) hk
  rw [List.range_eq_range']
  exact this
theorem iter_all {f : Int → Option (Int ⊕ ρ)} {n : Nat} {e r : ρ} (p : Nat → Prop) [DecidablePred p] (k : Nat) (hs : ∀ i : Nat, i < n → f (i : Int) = some (if p i then .inl ((i + 1 : Nat) : Int) else .inr r)) (he : f (n : Int) = some (.inr e)) (hk : n < k) :
    P.iter k f 0 = some (if ∀ i, i < n → p i then e else r) := by
  rw [iter_find0 (n := n) (e := e) (fun i => if p i then none else some r) k (fun i hi => by rw [hs i hi]; by_cases h : p i <;> simp [h]) he hk]
  by_cases h : ∀ i, i < n → p i
  · rw [if_pos h]
    have : (List.range n).findSome? (fun i => if p i then none else some r) = none := by
      rw [List.findSome?_eq_none_iff]
      intro i hi
      simp [h i (List.mem_range.1 hi)]
    rw [this]; rfl
  · rw [if_neg h]
    have hh : ∃ i, i < n ∧ ¬ p i := by
      apply Classical.byContradiction
      intro q
      exact h fun i hi => Classical.byContradiction fun z => q ⟨i, hi, z⟩
    obtain ⟨i, hi, hp⟩ := hh
    have : ∃ y, (List.range n).findSome? (fun i => if p i then none else some r) = some y := by
      rw [← Option.isSome_iff_exists, List.findSome?_isSome_iff]
      exact ⟨i, List.mem_range.2 hi, by simp [hp]⟩
    obtain ⟨y, hy⟩ := this
    rw [hy]
    obtain ⟨j, _, hj⟩ := List.exists_of_findSome?_eq_some hy
    by_cases q : p j
    · simp [q] at hj
    · simp [q] at hj; simp [hj]
/-- A count that carries a state, and goes all the way. -/
theorem iter_fold {σ : Type} {f : Int × σ → Option ((Int × σ) ⊕ ρ)} {n : Nat} {e : σ → ρ} (g : σ → Nat → σ) (inv : Nat → σ → Prop) (k : Nat) (s0 : σ) (h0 : inv 0 s0)
    (hs : ∀ (i : Nat) s, i < n → inv i s → f ((i : Int), s) = some (.inl (((i + 1 : Nat) : Int), g s i)) ∧ inv (i + 1) (g s i)) (he : ∀ s, inv n s → f ((n : Int), s) = some (.inr (e s))) (hk : n < k) :
    P.iter k f (0, s0) = some (e ((List.range n).foldl g s0)) ∧ inv n ((List.range n).foldl g s0) := by
  have key : ∀ (d i k : Nat) (s : σ), i + d = n → d < k → inv i s → P.iter k f ((i : Int), s) = some (e ((List.range' i d).foldl g s)) ∧ inv n ((List.range' i d).foldl g s) := by
    intro d
    induction d with
    | zero =>
      intro i k s hi hk hv
      obtain rfl : i = n := by omega
      exact ⟨iter_done (by omega) (he s hv), hv⟩
    | succ d ih =>
      intro i k s hi hk hv
      obtain ⟨h1, h2⟩ := hs i s (by omega) hv
      rw [iter_step (by omega) h1, List.range'_succ, List.foldl_cons]
      exact ih (i + 1) (k - 1) _ (by omega) (by omega) h2
  have := key n 0 k s0 (by omega) hk h0
  rw [List.range_eq_range']
  exact this
end

/-! ### numbers -/
theorem ieq_iff {x y : Int} : P.ieq x y = true ↔ x = y := by simp [P.ieq]
theorem ieq_eq (x y : Int) : P.ieq x y = decide (x = y) := by rw [Bool.eq_iff_iff]; simp [P.ieq]
theorem ilt_iff {x y : Int} : P.ilt x y = true ↔ x < y := by simp [P.ilt]
theorem ile_iff {x y : Int} : P.ile x y = true ↔ x ≤ y := by simp [P.ile]
theorem inb_iff {i n : Int} : P.inb i n = true ↔ 0 ≤ i ∧ i < n := by simp [P.inb]
theorem wrap_i64 {x : Int} (h0 : -9223372036854775808 ≤ x) (h1 : x < 9223372036854775808) : P.wrap .i64 x = x := by
  show IntKind.i64.wrap x = x
  simp only [IntKind.wrap, IntKind.bits, IntKind.signed]
  simp
  omega
theorem wrap_nat {n : Nat} (h : n < 9223372036854775808) : P.wrap .i64 (n : Int) = n := wrap_i64 (by omega) (by omega)
theorem wrap_succ {n : Nat} (h : n + 1 < 9223372036854775808) : P.wrap .i64 (P.add (n : Int) 1) = ((n + 1 : Nat) : Int) := by
  rw [wrap_i64 (by simp [P.add]; omega) (by simp [P.add]; omega)]; simp [P.add]
theorem wrap_u64 {x : Int} (h0 : 0 ≤ x) (h1 : x < 18446744073709551616) : P.wrap .u64 x = x := by
  show IntKind.u64.wrap x = x
  simp only [IntKind.wrap, IntKind.bits, IntKind.signed]
  simp
  omega

theorem wrap_pred {n : Nat} (h0 : 0 < n) (h : n < 9223372036854775808) : P.wrap .i64 (P.sub (n : Int) 1) = ((n - 1 : Nat) : Int) := by
  rw [wrap_i64 (by simp [P.sub]; omega) (by simp [P.sub]; omega)]; simp [P.sub]; omega
theorem not_iff {b : Bool} : P.not b = true ↔ ¬ b = true := by cases b <;> simp [P.not]
theorem and_iff {a b : Bool} : P.and a b = true ↔ a = true ∧ b = true := by simp [P.and]
theorem beq_iff {a b : Bool} : P.beq a b = true ↔ a = b := by simp [P.beq]
theorem cut_iff {l u n : Int} : P.cut l u n = true ↔ 0 ≤ l ∧ l ≤ u ∧ u ≤ n := by simp [P.cut, and_assoc]
theorem room_iff {n : Int} {b : Nat} : P.room n b = true ↔ n.toNat * b ≤ 140737488355328 := by simp [P.room]

theorem room_nat {a b n : Nat} : P.room (P.add (a : Int) (b : Int)) n = true ↔ (a + b) * n ≤ 140737488355328 := by
  rw [room_iff]
  have : (P.add (a : Int) (b : Int)).toNat = a + b := by simp [P.add]; omega
  rw [this]
/-! ### lists -/
theorem get_nat {α : Type} (l : List α) (i : Nat) (d : α) : P.get l (i : Int) d = l.getD i d := by simp [P.get]
theorem get_lt {α : Type} (l : List α) {i : Nat} (h : i < l.length) (d : α) : P.get l (i : Int) d = l[i] := by simp [P.get, h]
theorem len_eq {α : Type} (l : List α) : P.len l = (l.length : Int) := rfl

/-! ### strings -/
def ltS (a b : ByteArray) : Prop := a.data.toList < b.data.toList
instance (a b : ByteArray) : Decidable (ltS a b) := inferInstanceAs (Decidable (a.data.toList < b.data.toList))
theorem ba_ext {a b : ByteArray} (h : a.data.toList = b.data.toList) : a = b := by
  cases a; cases b; simp at h; simp [h]
theorem bytesLess_eq : ∀ (x y : List UInt8), Op.bytesLess x y = decide (x < y)
  | [], [] => by simp [Op.bytesLess]
  | _ :: _, [] => by simp [Op.bytesLess]
  | [], _ :: _ => by simp [Op.bytesLess]
  | a :: x, b :: y => by
    rw [Op.bytesLess, bytesLess_eq x y]
    simp only [List.cons_lt_cons_iff]
    by_cases h1 : a < b <;> by_cases h2 : a = b <;> by_cases h3 : x < y <;> simp [h1, h2, h3]
theorem slt_iff {a b : ByteArray} : P.slt a b = true ↔ ltS a b := by
  unfold P.slt ltS
  rw [bytesLess_eq, ByteArray.toList_eq, ByteArray.toList_eq]
  simp
theorem seq_iff {a b : ByteArray} : P.seq a b = true ↔ a = b := by
  unfold P.seq
  rw [ByteArray.toList_eq, ByteArray.toList_eq]
  simp only [beq_iff_eq]
  exact ⟨ba_ext, fun h => by rw [h]⟩
theorem sle_iff {a b : ByteArray} : P.sle a b = true ↔ (ltS a b ∨ a = b) := by
  have h1 : Op.bytesLess a.toList b.toList = P.slt a b := rfl
  have h2 : (a.toList == b.toList) = P.seq a b := rfl
  unfold P.sle
  rw [h1, h2, Bool.or_eq_true, slt_iff, seq_iff]
theorem ltS_irrefl (a : ByteArray) : ¬ ltS a a := List.lt_irrefl _
theorem ltS_trans {a b c : ByteArray} (h1 : ltS a b) (h2 : ltS b c) : ltS a c := List.lt_trans h1 h2
theorem ltS_asymm {a b : ByteArray} (h1 : ltS a b) : ¬ ltS b a := List.lt_asymm h1
theorem ltS_tri (a b : ByteArray) : ltS a b ∨ a = b ∨ ltS b a := by
  by_cases h1 : ltS a b
  · exact .inl h1
  · by_cases h2 : ltS b a
    · exact .inr (.inr h2)
    · exact .inr (.inl (ba_ext (List.le_antisymm (List.not_lt.1 h2) (List.not_lt.1 h1))))
theorem cmp_spec : ∀ (x y : List UInt8), (Lib.compareBytes x y < 0 ↔ x < y) ∧ (Lib.compareBytes x y = 0 ↔ x = y) ∧ -1 ≤ Lib.compareBytes x y ∧ Lib.compareBytes x y ≤ 1
  | [], [] => by simp [Lib.compareBytes]
  | [], _ :: _ => by simp [Lib.compareBytes]
  | _ :: _, [] => by simp [Lib.compareBytes]
  | a :: x, b :: y => by
    have ih := cmp_spec x y
    simp only [Lib.compareBytes, List.cons_lt_cons_iff, List.cons.injEq]
    by_cases h1 : a < b
    · have : a ≠ b := fun h => by subst h; exact absurd h1 (by simp)
      simp [h1, this]
    · by_cases h2 : b < a
      · have : a ≠ b := fun h => by subst h; exact absurd h2 (by simp)
        simp [h1, h2, this]
      · have : a = b := UInt8.le_antisymm (UInt8.not_lt.1 h2) (UInt8.not_lt.1 h1)
        subst this
        simp only [h1, if_false, true_and, false_or]
        exact ih
def cmpS (a b : ByteArray) : Int := Lib.compareBytes a.data.toList b.data.toList
theorem cmpS_lt {a b : ByteArray} : cmpS a b < 0 ↔ ltS a b := (cmp_spec _ _).1
theorem cmpS_eq {a b : ByteArray} : cmpS a b = 0 ↔ a = b := (cmp_spec _ _).2.1.trans ⟨ba_ext, fun h => by rw [h]⟩
end Go.PL
end
section
/- The text of atoms.Norm, in parts. -/
open Go Go.PG Go.PL
set_option linter.unusedVariables false
namespace Go.PL
noncomputable def compactT (k : Nat) (ys : List (Int × Int)) : Option (List (Int × Int)) := P.cond (P.ilt (P.len ys) ((2 : Int))) (some ys) (P.bind (P.iter k (fun (y : Int × List (Int × Int)) => P.cond (P.ilt y.fst (P.len y.snd)) (P.cond (P.inb y.fst (P.len y.snd)) (P.cond (P.inb (P.wrap IntKind.i64 (P.sub y.fst ((1 : Int)))) (P.len y.snd)) (P.cond (P.and (P.ieq (P.get y.snd y.fst ((0 : Int), (0 : Int))).fst (P.get y.snd (P.wrap IntKind.i64 (P.sub y.fst ((1 : Int)))) ((0 : Int), (0 : Int))).fst) (P.ieq (P.get y.snd y.fst ((0 : Int), (0 : Int))).snd (P.get y.snd (P.wrap IntKind.i64 (P.sub y.fst ((1 : Int)))) ((0 : Int), (0 : Int))).snd)) (P.cond (P.cut y.fst (P.len y.snd) (P.len y.snd)) (P.bind (P.iter k (fun (y_1 : Int × Int × List (Int × Int)) => P.cond (P.ilt y_1.snd.fst (P.sub (P.len y.snd) y.fst)) (P.cond (P.inb y_1.snd.fst (P.sub (P.len y.snd) y.fst)) (P.cond (P.inb (P.wrap IntKind.i64 (P.sub y_1.snd.fst ((1 : Int)))) (P.sub (P.len y.snd) y.fst)) (P.cond (P.not (P.and (P.ieq (P.get y_1.snd.snd (P.add y.fst y_1.snd.fst) ((0 : Int), (0 : Int))).fst (P.get y_1.snd.snd (P.add y.fst (P.wrap IntKind.i64 (P.sub y_1.snd.fst ((1 : Int))))) ((0 : Int), (0 : Int))).fst) (P.ieq (P.get y_1.snd.snd (P.add y.fst y_1.snd.fst) ((0 : Int), (0 : Int))).snd (P.get y_1.snd.snd (P.add y.fst (P.wrap IntKind.i64 (P.sub y_1.snd.fst ((1 : Int))))) ((0 : Int), (0 : Int))).snd))) (P.cond (P.inb y_1.snd.fst (P.sub (P.len y.snd) y.fst)) (P.cond (P.inb y_1.fst (P.len y_1.snd.snd)) (some (Sum.inl (P.wrap IntKind.i64 (P.add y_1.fst ((1 : Int))), P.wrap IntKind.i64 (P.add y_1.snd.fst ((1 : Int))), P.set y_1.snd.snd y_1.fst (P.get y_1.snd.snd (P.add y.fst y_1.snd.fst) ((0 : Int), (0 : Int)))))) none) none) (some (Sum.inl (y_1.fst, P.wrap IntKind.i64 (P.add y_1.snd.fst ((1 : Int))), y_1.snd.snd)))) none) none) (some (Sum.inr (Sum.inl (y_1.fst, y_1.snd.snd))))) (y.fst, (1 : Int), y.snd)) (P.either (fun (z : Int × List (Int × Int)) => P.cond (P.cut z.fst (P.len z.snd) (P.len z.snd)) (P.cond (P.cut ((0 : Int)) z.fst (P.len (P.fill z.snd z.fst (P.sub (P.len z.snd) z.fst) ((0 : Int), (0 : Int))))) (some (Sum.inr (Sum.inr (P.sub_ (P.fill z.snd z.fst (P.sub (P.len z.snd) z.fst) ((0 : Int), (0 : Int))) ((0 : Int)) z.fst)))) none) none) fun (r : Int × List (Int × Int) ⊕ List (Int × Int) ⊕ List (Int × Int)) => some r)) none) (some (Sum.inl (P.wrap IntKind.i64 (P.add y.fst ((1 : Int))), y.snd)))) none) none) (some (Sum.inr (Sum.inl y.snd)))) ((1 : Int), ys)) (P.either (fun (z : List (Int × Int)) => some z) fun (r : List (Int × Int)) => some r))
noncomputable def shiftT (k : Nat) (s : Int) (x : List (Int × Int)) : Option (List (Int × Int)) := (P.bind (P.iter k (fun (y : Int × Int × List (Int × Int)) => P.cond (P.ilt y.snd.fst (P.len y.snd.snd)) (P.cond (P.inb y.snd.fst (P.len y.snd.snd)) (P.bind (atoms_Norm_1 k (P.get y.snd.snd y.snd.fst ((0 : Int), (0 : Int)))) fun (r : Bool) => P.cond (P.not r) (P.cond (P.inb y.fst (P.len y.snd.snd)) (some (Sum.inl (P.wrap IntKind.i64 (P.add y.fst ((1 : Int))), P.wrap IntKind.i64 (P.add y.snd.fst ((1 : Int))), P.set y.snd.snd y.fst (P.get y.snd.snd y.snd.fst ((0 : Int), (0 : Int)))))) none) (some (Sum.inl (y.fst, P.wrap IntKind.i64 (P.add y.snd.fst ((1 : Int))), y.snd.snd)))) none) (some (Sum.inr (Sum.inl (y.fst, y.snd.snd))))) (s, P.wrap IntKind.i64 (P.add s ((1 : Int))), P.app [] x)) (P.either (fun (z : Int × List (Int × Int)) => P.cond (P.cut z.fst (P.len z.snd) (P.len z.snd)) (P.cond (P.cut ((0 : Int)) z.fst (P.len (P.fill z.snd z.fst (P.sub (P.len z.snd) z.fst) ((0 : Int), (0 : Int))))) (P.bind (sortF (P.sub_ (P.fill z.snd z.fst (P.sub (P.len z.snd) z.fst) ((0 : Int), (0 : Int))) ((0 : Int)) z.fst)) fun (ys : List (Int × Int)) => compactT k ys) none) none) fun (r : List (Int × Int)) => some r))
noncomputable def delT (k : Nat) (x : List (Int × Int)) : Option (List (Int × Int)) := (P.bind (P.iter k (fun (y : Int) => P.cond (P.ilt y (P.len (P.app [] x))) (P.cond (P.inb y (P.len (P.app [] x))) (P.bind (atoms_Norm_1 k (P.get (P.app [] x) y ((0 : Int), (0 : Int)))) fun (r : Bool) => P.cond r (P.map (fun (r : List (Int × Int)) => Sum.inr (Sum.inr r)) (P.cond (P.ieq y ((-1 : Int))) (P.bind (sortF (P.app [] x)) fun (ys : List (Int × Int)) => compactT k ys) (shiftT k y x))) (some (Sum.inl (P.wrap IntKind.i64 (P.add y ((1 : Int))))))) none) (some (Sum.inr (Sum.inl PUnit.unit)))) ((0 : Int))) (P.either (fun (z : PUnit) => P.cond (P.ieq ((-1 : Int)) ((-1 : Int))) (P.bind (sortF (P.app [] x)) fun (ys : List (Int × Int)) => compactT k ys) (shiftT k (-1 : Int) x)) fun (r : List (Int × Int)) => some r))
noncomputable def nilT (k : Nat) : Option (List (Int × Int)) := (P.bind (P.iter k (fun (y : Int) => P.cond (P.ilt y ((0 : Int))) none (some (Sum.inr (Sum.inl PUnit.unit)))) ((0 : Int))) (P.either (fun (z : PUnit) => P.cond (P.ieq ((-1 : Int)) ((-1 : Int))) (P.bind (sortF []) fun (x : List (Int × Int)) => P.cond (P.ilt ((0 : Int)) ((2 : Int))) (some []) (P.bind (P.iter k (fun (y : Int × List (Int × Int)) => P.cond (P.ilt y.fst ((0 : Int))) none (some (Sum.inr (Sum.inl [])))) ((1 : Int), [])) (P.either (fun (z : List (Int × Int)) => some []) fun (r : List (Int × Int)) => some r))) (P.bind (P.iter k (fun (y : Int × Int × List (Int × Int)) => P.cond (P.ilt y.snd.fst ((0 : Int))) none (some (Sum.inr (Sum.inl (y.fst, []))))) ((-1 : Int), P.wrap IntKind.i64 (P.add ((-1 : Int)) ((1 : Int))), [])) (P.either (fun (z : Int × List (Int × Int)) => P.cond (P.cut z.fst ((0 : Int)) ((0 : Int))) (P.cond (P.cut ((0 : Int)) z.fst ((0 : Int))) (P.bind (sortF []) fun (x : List (Int × Int)) => P.cond (P.ilt ((0 : Int)) ((2 : Int))) (some []) (P.bind (P.iter k (fun (y : Int × List (Int × Int)) => P.cond (P.ilt y.fst ((0 : Int))) none (some (Sum.inr (Sum.inl [])))) ((1 : Int), [])) (P.either (fun (z : List (Int × Int)) => some []) fun (r : List (Int × Int)) => some r))) none) none) fun (r : List (Int × Int)) => some r))) fun (r : List (Int × Int)) => some r))
theorem norm_form (k : Nat) (x : List (Int × Int)) : atoms_Norm k x = P.cond (P.ilt ((0 : Int)) (P.len x)) (P.cond (P.not true) (nilT k) (P.cond (P.room (P.add (P.len (P.nil (Int × Int))) (P.len x)) 16) (delT k x) none)) (P.amb (nilT k) (P.cond (P.room (P.add (P.len (P.nil (Int × Int))) (P.len x)) 16) (delT k x) none)) := rfl
end Go.PL
end
section
/- Lists of atoms: what atoms.Norm computes. -/
open Go Go.PG Go.PL
set_option linter.unusedVariables false
namespace Go.PL
abbrev At := Int × Int
abbrev dA : At := (0, 0)
def ltA (a b : At) : Prop := a.1 < b.1 ∨ (a.1 = b.1 ∧ a.2 < b.2)
instance (a b : At) : Decidable (ltA a b) := by unfold ltA; exact inferInstance
def RightA (a : At) : Prop := (3 ≤ a.1 ∧ a.1 ≤ 5 ∧ 0 ≤ a.2) ∨ ((a.1 = 0 ∨ a.1 = 1 ∨ a.1 = 2 ∨ a.1 = 6) ∧ a.2 = 0)
instance (a : At) : Decidable (RightA a) := by unfold RightA; exact inferInstance
theorem ltA_irrefl (a : At) : ¬ ltA a a := by unfold ltA; omega
theorem ltA_trans {a b c : At} (h1 : ltA a b) (h2 : ltA b c) : ltA a c := by unfold ltA at *; omega
theorem ltA_tri (a b : At) : ltA a b ∨ a = b ∨ ltA b a := by
  obtain ⟨a1, a2⟩ := a; obtain ⟨b1, b2⟩ := b
  simp only [ltA, Prod.mk.injEq]; omega
theorem ltA_asymm {a b : At} (h1 : ltA a b) : ¬ ltA b a := fun h2 => ltA_irrefl _ (ltA_trans h1 h2)

/-- Lists that rise. -/
abbrev Rises (l : List At) : Prop := l.Pairwise ltA
theorem rises_ext : ∀ {l m : List At}, Rises l → Rises m → (∀ z, z ∈ l ↔ z ∈ m) → l = m := by
  intro l
  induction l with
  | nil =>
    intro m _ _ h
    cases m with
    | nil => rfl
    | cons b m => exact absurd ((h b).2 (by simp)) (by simp)
  | cons a l ih =>
    intro m hl hm h
    cases m with
    | nil => exact absurd ((h a).1 (by simp)) (by simp)
    | cons b m =>
      obtain ⟨h1, h2⟩ := List.pairwise_cons.1 hl
      obtain ⟨h3, h4⟩ := List.pairwise_cons.1 hm
      have hab : a = b := by
        rcases List.mem_cons.1 ((h a).1 (by simp)) with q | q
        · exact q
        · rcases List.mem_cons.1 ((h b).2 (by simp)) with q' | q'
          · exact q'.symm
          · exact absurd (ltA_trans (h3 a q) (h1 b q')) (ltA_irrefl _)
      subst hab
      congr 1
      refine ih h2 h4 fun z => ⟨fun hz => ?_, fun hz => ?_⟩
      · rcases List.mem_cons.1 ((h z).1 (List.mem_cons_of_mem _ hz)) with q | q
        · subst q; exact absurd (h1 z hz) (ltA_irrefl _)
        · exact q
      · rcases List.mem_cons.1 ((h z).2 (List.mem_cons_of_mem _ hz)) with q | q
        · subst q; exact absurd (h3 z hz) (ltA_irrefl _)
        · exact q

/-! ### Norm, asx the document says it -/
/-- An atom ahead of the first greater one. -/
def insA (x : At) : List At → List At
  | [] => [x]
  | y :: l => if ltA x y then x :: y :: l else y :: insA x l
theorem mem_insA {x z : At} : ∀ {l : List At}, z ∈ insA x l ↔ z = x ∨ z ∈ l := by
  intro l
  induction l with
  | nil => simp [insA]
  | cons y l ih =>
    simp only [insA]
    split
    · simp
    · simp only [List.mem_cons, ih]
      constructor
      · rintro (h | h | h) <;> simp [h]
      · rintro (h | h | h) <;> simp [h]
theorem rises_insA {x : At} : ∀ {l : List At}, Rises l → x ∉ l → Rises (insA x l) := by
  intro l
  induction l with
  | nil => intro _ _; simp [insA, Rises]
  | cons y l ih =>
    intro h hx
    obtain ⟨h1, h2⟩ := List.pairwise_cons.1 h
    simp only [insA]
    split
    · rename_i q
      refine List.pairwise_cons.2 ⟨fun z hz => ?_, h⟩
      rcases List.mem_cons.1 hz with rfl | hz
      · exact q
      · exact ltA_trans q (h1 z hz)
    · rename_i q
      refine List.pairwise_cons.2 ⟨fun z hz => ?_, ih h2 fun z => hx (List.mem_cons_of_mem _ z)⟩
      rcases mem_insA.1 hz with rfl | hz
      · rcases ltA_tri z y with z' | z' | z'
        · exact absurd z' q
        · subst z'; exact absurd (by simp) hx
        · exact z'
      · exact h1 z hz
def addA (l : List At) (x : At) : List At := if RightA x ∧ x ∉ l then insA x l else l
def norm (l : List At) : List At := l.foldl addA []
theorem mem_addA {l : List At} {x z : At} : z ∈ addA l x ↔ z ∈ l ∨ (z = x ∧ RightA x) := by
  unfold addA
  split
  · rename_i h
    rw [mem_insA]
    constructor
    · rintro (q | q)
      · exact .inr ⟨q, h.1⟩
      · exact .inl q
    · rintro (q | q)
      · exact .inr q
      · exact .inl q.1
  · rename_i h
    constructor
    · exact .inl
    · rintro (q | ⟨rfl, q⟩)
      · exact q
      · apply Classical.byContradiction
        intro z'
        exact h ⟨q, z'⟩
theorem rises_addA {l : List At} {x : At} (h : Rises l) : Rises (addA l x) := by
  unfold addA
  split
  · rename_i q; exact rises_insA h q.2
  · exact h
theorem fold_spec : ∀ (l acc : List At), Rises acc → Rises (l.foldl addA acc) ∧ ∀ z, z ∈ l.foldl addA acc ↔ z ∈ acc ∨ (z ∈ l ∧ RightA z) := by
  intro l
  induction l with
  | nil => intro acc h; exact ⟨h, fun z => by simp⟩
  | cons x l ih =>
    intro acc h
    obtain ⟨h1, h2⟩ := ih (addA acc x) (rises_addA h)
    refine ⟨h1, fun z => ?_⟩
    rw [List.foldl_cons, h2, mem_addA, List.mem_cons]
    constructor
    · rintro ((q | ⟨rfl, q⟩) | q)
      · exact .inl q
      · exact .inr ⟨.inl rfl, q⟩
      · exact .inr ⟨.inr q.1, q.2⟩
    · rintro (q | ⟨rfl | q, q'⟩)
      · exact .inl (.inl q)
      · exact .inl (.inr ⟨rfl, q'⟩)
      · exact .inr ⟨q, q'⟩
theorem norm_rises (l : List At) : Rises (norm l) := (fold_spec l [] List.Pairwise.nil).1
theorem mem_norm {l : List At} {z : At} : z ∈ norm l ↔ z ∈ l ∧ RightA z := by
  unfold norm
  rw [(fold_spec l [] List.Pairwise.nil).2]
  simp
/-- May a list be? -/
def Canon (l : List At) : Prop := Rises l ∧ ∀ z, z ∈ l → RightA z
theorem norm_canon (l : List At) : Canon (norm l) := ⟨norm_rises l, fun z h => (mem_norm.1 h).2⟩
theorem norm_eq {l m : List At} (h : Canon m) (hm : ∀ z, RightA z → (z ∈ m ↔ z ∈ l)) : norm l = m :=
  rises_ext (norm_rises l) h.1 fun z => by
    rw [mem_norm]
    exact ⟨fun q => (hm z q.2).2 q.1, fun q => ⟨(hm z (h.2 z q)).1 q, h.2 z q⟩⟩
theorem canon_iff {l : List At} : l = norm l ↔ Canon l := ⟨fun h => by rw [h]; exact norm_canon l, fun h => (norm_eq h fun _ _ => Iff.rfl).symm⟩
theorem norm_nil : norm [] = [] := rfl

/-! ### the order of atoms, sorting -/
def K : Nat := 18446744073709551616
def leB (a b : At) : Bool := decide (a.1 < b.1 ∨ (a.1 = b.1 ∧ a.2 ≤ b.2))
theorem leB_iff {a b : At} : leB a b = true ↔ ¬ ltA b a := by
  unfold leB ltA; rw [decide_eq_true_eq]; omega
theorem sortF_spec (l : List At) (hlen : l.length < 4611686018427387904) : ∃ s, sortF l = some s ∧ s.length = l.length ∧ (∀ z, z ∈ s ↔ z ∈ l) ∧ s.Pairwise (fun a b => ¬ ltA b a) := by
  refine ⟨l.mergeSort leB, by unfold sortF SortX.sortF; rw [if_pos hlen]; rfl, by simp, fun z => List.mem_mergeSort, ?_⟩
  have h := List.pairwise_mergeSort (le := leB) (fun a b c h1 h2 => by
    rw [leB_iff] at *
    intro h3
    rcases ltA_tri a b with q | q | q
    · exact h2 (ltA_trans h3 q)
    · subst q; exact h2 h3
    · exact h1 q) (fun a b => by
    rw [Bool.or_eq_true, leB_iff, leB_iff]
    by_cases q : ltA b a
    · exact .inr (ltA_asymm q)
    · exact .inl q) l
  exact h.imp fun q => leB_iff.1 q
end Go.PL
end
section
/- atoms.Norm computes norm. -/
open Go Go.PG Go.PL
set_option linter.unusedVariables false
namespace Go.PL
theorem at_right (k : Nat) (a : At) : atoms_right k a = some (decide (RightA a)) := by
  obtain ⟨a, b⟩ := a
  unfold atoms_right
  dsimp only
  simp only [cond_eq, ieq_iff]
  repeat' split
  all_goals
    rw [Option.some.injEq, Bool.eq_iff_iff, decide_eq_true_eq]
    simp only [RightA, ieq_iff, ile_iff, Bool.false_eq_true, false_iff]
    omega
theorem at_bad (k : Nat) (a : At) : atoms_Norm_1 k a = some (!decide (RightA a)) := by
  unfold atoms_Norm_1
  rw [at_right, bind_some]
  rfl

theorem getD_set_ne {l : List At} {i j : Nat} (h : i ≠ j) (x : At) : (l.set i x).getD j dA = l.getD j dA := by
  simp [List.getD_eq_getElem?_getD, List.getElem?_set_ne h]
theorem take_set_succ {l : List At} {i : Nat} (h : i < l.length) (x : At) : (l.set i x).take (i + 1) = l.take i ++ [x] := by
  rw [List.take_add_one, List.take_set_of_le (Nat.le_refl i)]
  simp [h]
theorem drop_getD {l : List At} {j : Nat} (h : j < l.length) : l.drop j = l.getD j dA :: l.drop (j + 1) := by
  rw [List.drop_eq_getElem_cons h]
  simp [List.getD_eq_getElem?_getD, h]
theorem take_getD {l : List At} {j : Nat} (h : j < l.length) : l.take (j + 1) = l.take j ++ [l.getD j dA] := by
  rw [List.take_add_one, List.getElem?_eq_getElem h]
  simp [List.getD_eq_getElem?_getD, h]

/-- A loop that keeps, in place, what is good. -/
theorem iter_keep {ρ : Type} {f : Int × Int × List At → Option ((Int × Int × List At) ⊕ ((Int × List At) ⊕ ρ))} (p : At → Bool) (n : Nat) (x : List At) (hn : x.length = n)
    (hs : ∀ (i j : Nat) (xs : List At), i ≤ j → j < n → xs.length = n → xs.getD j dA = x.getD j dA → f ((i : Int), (j : Int), xs) = some (.inl (if p (x.getD j dA) = true then (((i + 1 : Nat) : Int), ((j + 1 : Nat) : Int), xs.set i (x.getD j dA)) else ((i : Int), ((j + 1 : Nat) : Int), xs))))
    (he : ∀ (i : Nat) (xs : List At), i ≤ n → xs.length = n → f ((i : Int), (n : Int), xs) = some (.inr (.inl ((i : Int), xs)))) :
    ∀ (d i j k : Nat) (xs : List At), j + d = n → d < k → i ≤ j → xs.length = n → (∀ m, j ≤ m → xs.getD m dA = x.getD m dA) →
      ∃ (i' : Nat) (xs' : List At), P.iter k f ((i : Int), (j : Int), xs) = some (.inl ((i' : Int), xs')) ∧ i' ≤ n ∧ xs'.length = n ∧ xs'.take i' = xs.take i ++ (x.drop j).filter p := by
  intro d
  induction d with
  | zero =>
    intro i j k xs hj hk hij hl hm
    obtain rfl : j = n := by omega
    refine ⟨i, xs, iter_done (by omega) (he i xs (by omega) hl), by omega, hl, ?_⟩
    rw [List.drop_eq_nil_of_le (by omega)]
    simp
  | succ d ih =>
    intro i j k xs hj hk hij hl hm
    have hstep := hs i j xs hij (by omega) hl (hm j (Nat.le_refl _))
    rw [drop_getD (l := x) (j := j) (by omega)]
    by_cases hp : p (x.getD j dA) = true
    · rw [if_pos hp] at hstep
      obtain ⟨i', xs', h1, h2, h3, h4⟩ := ih (i + 1) (j + 1) (k - 1) (xs.set i (x.getD j dA)) (by omega) (by omega) (by omega) (by simpa using hl) (fun m hm' => by rw [getD_set_ne (by omega)]; exact hm m (by omega))
      refine ⟨i', xs', by rw [iter_step (by omega) hstep]; exact h1, h2, h3, ?_⟩
      rw [h4, take_set_succ (by omega), List.filter_cons_of_pos hp]
      simp
    · rw [if_neg hp] at hstep
      obtain ⟨i', xs', h1, h2, h3, h4⟩ := ih i (j + 1) (k - 1) xs (by omega) (by omega) (by omega) hl (fun m hm' => hm m (by omega))
      refine ⟨i', xs', by rw [iter_step (by omega) hstep]; exact h1, h2, h3, ?_⟩
      rw [h4, List.filter_cons_of_neg hp]

theorem sub_fill {l : List At} {i : Nat} (h : i ≤ l.length) (m : Int) (z : At) : P.sub_ (P.fill l (i : Int) m z) 0 (i : Int) = l.take i := by
  simp only [P.sub_, P.fill, Int.toNat_natCast, Int.toNat_zero, List.drop_zero]
  rw [List.append_assoc, List.take_append_of_le_length (by rw [List.length_take]; omega), List.take_take]
  simp
theorem len_fill {l : List At} {i : Nat} (h : i ≤ l.length) (z : At) : P.len (P.fill l (i : Int) (P.sub (P.len l) (i : Int)) z) = (l.length : Int) := by
  simp only [P.len, P.fill, P.sub, Int.toNat_natCast]
  have : ((l.length : Int) - (i : Int)).toNat = l.length - i := by omega
  rw [this]
  simp
  omega

noncomputable def rest (l : List At) : Option (List At) := P.bind (sortF l) (compactT K)
def good (a : At) : Bool := decide (RightA a)

theorem nil_spec (hc : ∀ ys : List At, ys = [] → True) : nilT K = some [] := by
  have s0 : sortF [] = some [] := by
    obtain ⟨s, h1, h2, _⟩ := sortF_spec [] (by simp)
    rw [h1]
    rw [List.length_eq_zero_iff.1 h2]
  unfold nilT
  rw [iter_done (r := .inl ()) (by unfold K; omega) (by rfl), bind_some, either_inl]
  simp only [s0, bind_some, cond_eq, ieq_iff, ilt_iff]
  rfl

theorem shift_spec (x : List At) (hx : x.length < 9223372036854775808) (i : Nat) (hi : i < x.length) : shiftT K (i : Int) x = rest (x.take i ++ (x.drop (i + 1)).filter good) := by
  unfold shiftT
  have happ : P.app [] x = x := rfl
  rw [happ, wrap_succ (by omega)]
  have fin : ∀ f : Int × Int × List At → Option ((Int × Int × List At) ⊕ ((Int × List At) ⊕ List At)),
      (∀ (i j : Nat) (xs : List At), i ≤ j → j < x.length → xs.length = x.length → xs.getD j dA = x.getD j dA → f ((i : Int), (j : Int), xs) = some (.inl (if good (x.getD j dA) = true then (((i + 1 : Nat) : Int), ((j + 1 : Nat) : Int), xs.set i (x.getD j dA)) else ((i : Int), ((j + 1 : Nat) : Int), xs)))) →
      (∀ (i : Nat) (xs : List At), i ≤ x.length → xs.length = x.length → f ((i : Int), (x.length : Int), xs) = some (.inr (.inl ((i : Int), xs)))) →
      P.bind (P.iter K f ((i : Int), ((i + 1 : Nat) : Int), x)) (P.either (fun (z : Int × List (Int × Int)) => P.cond (P.cut z.fst (P.len z.snd) (P.len z.snd)) (P.cond (P.cut ((0 : Int)) z.fst (P.len (P.fill z.snd z.fst (P.sub (P.len z.snd) z.fst) ((0 : Int), (0 : Int))))) (P.bind (sortF (P.sub_ (P.fill z.snd z.fst (P.sub (P.len z.snd) z.fst) ((0 : Int), (0 : Int))) ((0 : Int)) z.fst)) fun (ys : List (Int × Int)) => compactT K ys) none) none) fun (r : List (Int × Int)) => some r) = rest (x.take i ++ (x.drop (i + 1)).filter good) := by
    intro f hs he
    obtain ⟨i', xs', h1, h2, h3, h4⟩ := iter_keep good x.length x rfl hs he (x.length - (i + 1)) i (i + 1) K x (by omega) (by unfold K; omega) (by omega) rfl (fun _ _ => rfl)
    rw [h1, bind_some, either_inl]
    simp only [cond_eq, cut_iff, len_eq]
    rw [if_pos ⟨by omega, by omega, by omega⟩]
    have hl := len_fill (l := xs') (i := i') (by omega) ((0 : Int), (0 : Int))
    simp only [len_eq] at hl
    rw [if_pos ⟨by omega, by omega, by rw [hl]; omega⟩, sub_fill (by omega), h4]
    rfl
  refine fin _ (fun i j xs hij hj hl hg => ?_) (fun i xs hi hl => ?_)
  · simp only [cond_eq, ilt_iff, inb_iff, len_eq, get_nat, hl]
    rw [if_pos (by omega), if_pos ⟨by omega, by omega⟩, hg, at_bad, bind_some, wrap_succ (by omega), wrap_succ (by omega)]
    by_cases q : RightA (x.getD j dA)
    · rw [if_pos (show P.not (!decide (RightA (x.getD j dA))) = true by simp only [P.not, decide_eq_true q]; rfl), if_pos ⟨by omega, by omega⟩, if_pos (show good (x.getD j dA) = true from decide_eq_true q)]
      rfl
    · rw [if_neg (show ¬ P.not (!decide (RightA (x.getD j dA))) = true by simp only [P.not, decide_eq_false q]; decide), if_neg (show ¬ good (x.getD j dA) = true by unfold good; rw [decide_eq_false q]; decide)]
  · simp only [cond_eq, ilt_iff, len_eq, hl]
    rw [if_neg (by omega)]

theorem del_spec (x : List At) (hx : x.length < 9223372036854775808) : delT K x = rest (x.filter good) := by
  have happ : P.app [] x = x := rfl
  unfold delT
  rw [happ]
  have key : ∀ (d i k : Nat) (f : Int → Option (Int ⊕ (Unit ⊕ List At))), i + d = x.length → d < k → (∀ a, a ∈ x.take i → good a = true) →
      (∀ j : Nat, j < x.length → f (j : Int) = if good (x.getD j dA) = true then some (.inl ((j + 1 : Nat) : Int)) else P.map (fun r => Sum.inr (Sum.inr r)) (shiftT K (j : Int) x)) → f (x.length : Int) = some (.inr (.inl ())) →
      P.bind (P.iter k f (i : Int)) (P.either (fun (z : Unit) => P.bind (sortF x) fun ys => compactT K ys) fun r => some r) = rest (x.filter good) := by
    intro d
    induction d with
    | zero =>
      intro i k f hi hk hg hs he
      obtain rfl : i = x.length := by omega
      rw [iter_done (by omega) he, bind_some, either_inl]
      rw [List.take_length] at hg
      rw [List.filter_eq_self.2 hg]
      rfl
    | succ d ih =>
      intro i k f hi hk hg hs he
      have h := hs i (by omega)
      by_cases q : good (x.getD i dA) = true
      · rw [if_pos q] at h
        rw [iter_step (by omega) h]
        refine ih (i + 1) (k - 1) f (by omega) (by omega) (fun a ha => ?_) hs he
        rw [take_getD (by omega), List.mem_append, List.mem_singleton] at ha
        rcases ha with ha | ha
        · exact hg a ha
        · rw [ha]; exact q
      · rw [if_neg q, shift_spec x hx i (by omega)] at h
        have e : x.take i ++ (x.drop (i + 1)).filter good = x.filter good := by
          conv => rhs; rw [← List.take_append_drop i x, List.filter_append, List.filter_eq_self.2 hg, drop_getD (l := x) (j := i) (by omega), List.filter_cons_of_neg q]
        rw [e] at h
        cases hr : rest (x.filter good) with
        | none =>
          rw [hr] at h
          obtain ⟨m, rfl⟩ : ∃ m, k = m + 1 := ⟨k - 1, by omega⟩
          rw [iter_succ, h]
          rfl
        | some r =>
          rw [hr] at h
          rw [iter_done (by omega) h, bind_some, either_inr]
  rw [show P.ieq ((-1 : Int)) ((-1 : Int)) = true from by decide]
  simp only [cond_true]
  refine key x.length 0 K _ (by omega) (by unfold K; omega) (by simp) (fun j hj => ?_) ?_
  · simp only [cond_eq, ilt_iff, inb_iff, len_eq, get_nat, ieq_iff]
    rw [if_pos (by omega), if_pos ⟨by omega, by omega⟩, at_bad, bind_some, wrap_succ (by omega), if_neg (show ¬ (j : Int) = -1 by omega)]
    by_cases q : RightA (x.getD j dA)
    · rw [if_neg (by rw [decide_eq_true q]; decide), if_pos (show good (x.getD j dA) = true from decide_eq_true q)]
    · rw [if_pos (by rw [decide_eq_false q]; rfl), if_neg (show ¬ good (x.getD j dA) = true by unfold good; rw [decide_eq_false q]; decide)]
  · simp only [cond_eq, ilt_iff, len_eq]
    rw [if_neg (by omega)]
end Go.PL
end
section
/- atoms.Norm computes norm: the last part. -/
open Go Go.PG Go.PL
set_option linter.unusedVariables false
namespace Go.PL
abbrev Sorted (ys : List At) : Prop := ys.Pairwise fun a b => ¬ ltA b a
theorem sorted_at {ys : List At} (h : Sorted ys) {i j : Nat} (hij : i ≤ j) (hj : j < ys.length) : ¬ ltA (ys.getD j dA) (ys.getD i dA) := by
  rcases Nat.lt_or_eq_of_le hij with q | q
  · have := List.pairwise_iff_getElem.1 h i j (by omega) hj q
    simpa [List.getD_eq_getElem?_getD, hj, show i < ys.length by omega] using this
  · subst q; exact ltA_irrefl _
theorem mem_take_getD {ys : List At} {m : Nat} {z : At} (h : z ∈ ys.take m) : ∃ i, i < m ∧ i < ys.length ∧ z = ys.getD i dA := by
  obtain ⟨i, hi, rfl⟩ := List.getElem_of_mem h
  rw [List.length_take] at hi
  exact ⟨i, by omega, by omega, by rw [List.getElem_take]; simp [List.getD_eq_getElem?_getD, show i < ys.length by omega]⟩
theorem getD_mem_take {ys : List At} {i m : Nat} (h : i < m) (hi : i < ys.length) : ys.getD i dA ∈ ys.take m := by
  have : (ys.take m)[i]? = some (ys.getD i dA) := by rw [List.getElem?_take, if_pos h]; simp [List.getD_eq_getElem?_getD, hi]
  exact List.mem_of_getElem? this

theorem iter_dd {ρ : Type} {f : Int × Int × List At → Option ((Int × Int × List At) ⊕ ((Int × List At) ⊕ ρ))} (ys : List At) (hsrt : Sorted ys) (j0 : Nat) (hj0 : 0 < j0) (hjn : j0 < ys.length)
    (hs : ∀ (i k2 : Nat) (xs : List At), 0 < k2 → i < j0 + k2 → j0 + k2 < ys.length → xs.length = ys.length → xs.getD (j0 + k2) dA = ys.getD (j0 + k2) dA → xs.getD (j0 + (k2 - 1)) dA = ys.getD (j0 + (k2 - 1)) dA →
      f ((i : Int), (k2 : Int), xs) = some (.inl (if ys.getD (j0 + k2) dA = ys.getD (j0 + (k2 - 1)) dA then ((i : Int), ((k2 + 1 : Nat) : Int), xs) else (((i + 1 : Nat) : Int), ((k2 + 1 : Nat) : Int), xs.set i (ys.getD (j0 + k2) dA)))))
    (he : ∀ (i k2 : Nat) (xs : List At), j0 + k2 = ys.length → i ≤ ys.length → xs.length = ys.length → f ((i : Int), (k2 : Int), xs) = some (.inr (.inl ((i : Int), xs)))) :
    ∀ (d i k2 k : Nat) (xs : List At), j0 + k2 + d = ys.length → d < k → 0 < k2 → i < j0 + k2 → xs.length = ys.length → (∀ m, j0 + k2 ≤ m + 1 → xs.getD m dA = ys.getD m dA) → Rises (xs.take i) → (∀ z, z ∈ xs.take i ↔ z ∈ ys.take (j0 + k2)) →
      ∃ (i' : Nat) (xs' : List At), P.iter k f ((i : Int), (k2 : Int), xs) = some (.inl ((i' : Int), xs')) ∧ i' ≤ ys.length ∧ xs'.length = ys.length ∧ Rises (xs'.take i') ∧ ∀ z, z ∈ xs'.take i' ↔ z ∈ ys := by
  intro d
  induction d with
  | zero =>
    intro i k2 k xs hd hk h2 hi hl hm hr hz
    refine ⟨i, xs, iter_done (by omega) (he i k2 xs (by omega) (by omega) hl), by omega, hl, hr, fun z => ?_⟩
    rw [hz, List.take_of_length_le (by omega)]
  | succ d ih =>
    intro i k2 k xs hd hk h2 hi hl hm hr hz
    have hstep := hs i k2 xs h2 hi (by omega) hl (hm _ (by omega)) (hm _ (by omega))
    have hprev : ys.getD (j0 + (k2 - 1)) dA ∈ ys.take (j0 + k2) := getD_mem_take (by omega) (by omega)
    by_cases q : ys.getD (j0 + k2) dA = ys.getD (j0 + (k2 - 1)) dA
    · rw [if_pos q] at hstep
      obtain ⟨i', xs', r1, r2, r3, r4, r5⟩ := ih i (k2 + 1) (k - 1) xs (by omega) (by omega) (by omega) (by omega) hl (fun m hm' => hm m (by omega)) hr (fun z => by
        rw [hz, show j0 + (k2 + 1) = j0 + k2 + 1 by omega, take_getD (by omega), List.mem_append, List.mem_singleton]
        exact ⟨.inl, fun h => h.elim id fun h => by rw [h, q]; exact hprev⟩)
      exact ⟨i', xs', by rw [iter_step (by omega) hstep]; exact r1, r2, r3, r4, r5⟩
    · rw [if_neg q] at hstep
      have htake : (xs.set i (ys.getD (j0 + k2) dA)).take (i + 1) = xs.take i ++ [ys.getD (j0 + k2) dA] := take_set_succ (by omega) _
      obtain ⟨i', xs', r1, r2, r3, r4, r5⟩ := ih (i + 1) (k2 + 1) (k - 1) (xs.set i (ys.getD (j0 + k2) dA)) (by omega) (by omega) (by omega) (by omega) (by simpa using hl) (fun m hm' => by rw [getD_set_ne (by omega)]; exact hm m (by omega)) (by
        rw [htake]
        refine List.pairwise_append.2 ⟨hr, List.pairwise_singleton _ _, fun a ha b hb => ?_⟩
        rw [List.mem_singleton] at hb
        subst hb
        obtain ⟨m, m1, m2, rfl⟩ := mem_take_getD ((hz a).1 ha)
        have s1 := sorted_at hsrt (i := m) (j := j0 + (k2 - 1)) (by omega) (by omega)
        have s2 := sorted_at hsrt (i := j0 + (k2 - 1)) (j := j0 + k2) (by omega) (by omega)
        rcases ltA_tri (ys.getD (j0 + (k2 - 1)) dA) (ys.getD (j0 + k2) dA) with t | t | t
        · rcases ltA_tri (ys.getD m dA) (ys.getD (j0 + (k2 - 1)) dA) with u | u | u
          · exact ltA_trans u t
          · rw [u]; exact t
          · exact absurd u s1
        · exact absurd t.symm q
        · exact absurd t s2) (fun z => by
        rw [htake, show j0 + (k2 + 1) = j0 + k2 + 1 by omega, take_getD (by omega), List.mem_append, List.mem_append, hz])
      exact ⟨i', xs', by rw [iter_step (by omega) hstep]; exact r1, r2, r3, r4, r5⟩

theorem eqA_iff {a b : At} : P.and (P.ieq a.1 b.1) (P.ieq a.2 b.2) = true ↔ a = b := by
  rw [and_iff, ieq_iff, ieq_iff]
  exact ⟨fun h => Prod.ext h.1 h.2, fun h => by rw [h]; exact ⟨rfl, rfl⟩⟩

theorem rises_take {ys : List At} (hs : Sorted ys) {j : Nat} (h : Rises (ys.take j)) (hj : j < ys.length) (h0 : 0 < j) (hne : ys.getD j dA ≠ ys.getD (j - 1) dA) : Rises (ys.take (j + 1)) := by
  rw [take_getD hj]
  refine List.pairwise_append.2 ⟨h, List.pairwise_singleton _ _, fun a ha b hb => ?_⟩
  rw [List.mem_singleton] at hb
  subst hb
  obtain ⟨m, m1, m2, rfl⟩ := mem_take_getD ha
  have s1 := sorted_at hs (i := m) (j := j - 1) (by omega) (by omega)
  have s2 := sorted_at hs (i := j - 1) (j := j) (by omega) (by omega)
  rcases ltA_tri (ys.getD (j - 1) dA) (ys.getD j dA) with t | t | t
  · rcases ltA_tri (ys.getD m dA) (ys.getD (j - 1) dA) with u | u | u
    · exact ltA_trans u t
    · rw [u]; exact t
    · exact absurd u s1
  · exact absurd t.symm hne
  · exact absurd t s2

theorem compact_spec (ys : List At) (hl : ys.length < 9223372036854775808) (hsrt : Sorted ys) : ∃ r, compactT K ys = some r ∧ Rises r ∧ ∀ z, z ∈ r ↔ z ∈ ys := by
  unfold compactT
  by_cases h2 : ys.length < 2
  · refine ⟨ys, ?_, ?_, fun z => Iff.rfl⟩
    · rw [show P.ilt (P.len ys) ((2 : Int)) = true from ilt_iff.2 (by rw [len_eq]; omega)]; rfl
    · match ys, h2 with
      | [], _ => exact List.Pairwise.nil
      | [a], _ => exact List.pairwise_singleton _ _
  rw [show P.ilt (P.len ys) ((2 : Int)) = false from by rw [Bool.eq_false_iff, Ne, ilt_iff, len_eq]; omega]
  rw [cond_false]
  have key : ∀ (d j k : Nat) (f : Int × List At → Option ((Int × List At) ⊕ (List At ⊕ List At))), j + d = ys.length → d < k → 0 < j → Rises (ys.take j) →
      (∀ j : Nat, 0 < j → j < ys.length → ys.getD j dA ≠ ys.getD (j - 1) dA → f ((j : Int), ys) = some (.inl (((j + 1 : Nat) : Int), ys))) →
      (∀ j : Nat, 0 < j → j < ys.length → ys.getD j dA = ys.getD (j - 1) dA → Rises (ys.take j) → ∃ r, f ((j : Int), ys) = some (.inr (.inr r)) ∧ Rises r ∧ ∀ z, z ∈ r ↔ z ∈ ys) →
      f ((ys.length : Int), ys) = some (.inr (.inl ys)) →
      ∃ r, P.bind (P.iter k f ((j : Int), ys)) (P.either (fun (z : List At) => some z) fun r => some r) = some r ∧ Rises r ∧ ∀ z, z ∈ r ↔ z ∈ ys := by
    intro d
    induction d with
    | zero =>
      intro j k f hj hk h0 hr hs1 hs2 he
      obtain rfl : j = ys.length := by omega
      rw [List.take_length] at hr
      exact ⟨ys, by rw [iter_done (by omega) he]; rfl, hr, fun z => Iff.rfl⟩
    | succ d ih =>
      intro j k f hj hk h0 hr hs1 hs2 he
      by_cases q : ys.getD j dA = ys.getD (j - 1) dA
      · obtain ⟨r, r1, r2, r3⟩ := hs2 j h0 (by omega) q hr
        exact ⟨r, by rw [iter_done (by omega) r1]; rfl, r2, r3⟩
      · have h := hs1 j h0 (by omega) q
        obtain ⟨r, r1, r2, r3⟩ := ih (j + 1) (k - 1) f (by omega) (by omega) (by omega) (rises_take hsrt hr (by omega) h0 q) hs1 hs2 he
        exact ⟨r, by rw [iter_step (by omega) h]; exact r1, r2, r3⟩
  refine key (ys.length - 1) 1 K _ (by omega) (by unfold K; omega) (by omega) ?_ (fun j h0 hj hne => ?_) (fun j h0 hj heq hr => ?_) ?_
  · rw [show (1 : Nat) = 0 + 1 from rfl, take_getD (by omega)]; simp
  · simp only [cond_eq, ilt_iff, inb_iff, len_eq]
    rw [if_pos (by omega), if_pos ⟨by omega, by omega⟩, wrap_pred h0 (by omega), if_pos ⟨by omega, by omega⟩]
    simp only [get_nat]
    rw [if_neg (fun q => hne (eqA_iff.1 q)), wrap_succ (by omega)]
  · have inner : ∀ f : Int × Int × List At → Option ((Int × Int × List At) ⊕ ((Int × List At) ⊕ ((Int × List At) ⊕ (List At ⊕ List At)))),
        (∀ (i k2 : Nat) (xs : List At), 0 < k2 → i < j + k2 → j + k2 < ys.length → xs.length = ys.length → xs.getD (j + k2) dA = ys.getD (j + k2) dA → xs.getD (j + (k2 - 1)) dA = ys.getD (j + (k2 - 1)) dA →
          f ((i : Int), (k2 : Int), xs) = some (.inl (if ys.getD (j + k2) dA = ys.getD (j + (k2 - 1)) dA then ((i : Int), ((k2 + 1 : Nat) : Int), xs) else (((i + 1 : Nat) : Int), ((k2 + 1 : Nat) : Int), xs.set i (ys.getD (j + k2) dA))))) →
        (∀ (i k2 : Nat) (xs : List At), j + k2 = ys.length → i ≤ ys.length → xs.length = ys.length → f ((i : Int), (k2 : Int), xs) = some (.inr (.inl ((i : Int), xs)))) →
        ∃ r, P.bind (P.iter K f ((j : Int), (1 : Int), ys)) (P.either (fun (z : Int × List (Int × Int)) => P.cond (P.cut z.fst (P.len z.snd) (P.len z.snd)) (P.cond (P.cut ((0 : Int)) z.fst (P.len (P.fill z.snd z.fst (P.sub (P.len z.snd) z.fst) ((0 : Int), (0 : Int))))) (some (Sum.inr (Sum.inr (P.sub_ (P.fill z.snd z.fst (P.sub (P.len z.snd) z.fst) ((0 : Int), (0 : Int))) ((0 : Int)) z.fst)))) none) none) fun (r : Int × List (Int × Int) ⊕ List (Int × Int) ⊕ List (Int × Int)) => some r) = some (.inr (.inr r)) ∧ Rises r ∧ ∀ z, z ∈ r ↔ z ∈ ys := by
      intro f hs he
      obtain ⟨i', xs', r1, r2, r3, r4, r5⟩ := iter_dd ys hsrt j h0 hj hs he (ys.length - (j + 1)) j 1 K ys (by omega) (by unfold K; omega) (by omega) (by omega) rfl (fun _ _ => rfl) hr (fun z => by
        rw [take_getD (by omega), List.mem_append, List.mem_singleton]
        exact ⟨.inl, fun h => h.elim id fun h => by rw [h, heq]; exact getD_mem_take (by omega) (by omega)⟩)
      refine ⟨xs'.take i', ?_, r4, r5⟩
      rw [show ((1 : Nat) : Int) = (1 : Int) from rfl] at r1
      rw [r1, bind_some, either_inl]
      simp only [cond_eq, cut_iff, len_eq]
      rw [if_pos ⟨by omega, by omega, by omega⟩]
      have hlf := len_fill (l := xs') (i := i') (by omega) ((0 : Int), (0 : Int))
      simp only [len_eq] at hlf
      rw [if_pos ⟨by omega, by omega, by rw [hlf]; omega⟩, sub_fill (by omega)]
    dsimp only
    rw [show P.ilt (j : Int) (P.len ys) = true from ilt_iff.2 (by rw [len_eq]; omega), cond_true, show P.inb (j : Int) (P.len ys) = true from inb_iff.2 (by rw [len_eq]; omega), cond_true, wrap_pred h0 (by omega),
      show P.inb ((j - 1 : Nat) : Int) (P.len ys) = true from inb_iff.2 (by rw [len_eq]; omega), cond_true, get_nat, get_nat, show P.and (P.ieq (ys.getD j dA).1 (ys.getD (j - 1) dA).1) (P.ieq (ys.getD j dA).2 (ys.getD (j - 1) dA).2) = true from eqA_iff.2 heq, cond_true,
      show P.cut (j : Int) (P.len ys) (P.len ys) = true from cut_iff.2 (by rw [len_eq]; omega), cond_true]
    refine inner _ (fun i k2 xs hk0 hi hk hlx hg1 hg2 => ?_) (fun i k2 xs hk hi hlx => ?_)
    · have e1 : P.add (j : Int) (k2 : Int) = ((j + k2 : Nat) : Int) := by simp [P.add]
      have e2 : P.add (j : Int) ((k2 - 1 : Nat) : Int) = ((j + (k2 - 1) : Nat) : Int) := by simp [P.add]
      have e3 : P.sub (P.len ys) (j : Int) = ((ys.length - j : Nat) : Int) := by simp only [P.sub, len_eq]; omega
      dsimp only
      rw [e3, show P.ilt (k2 : Int) ((ys.length - j : Nat) : Int) = true from ilt_iff.2 (by omega), cond_true, show P.inb (k2 : Int) ((ys.length - j : Nat) : Int) = true from inb_iff.2 (by omega), cond_true, wrap_pred hk0 (by omega),
        show P.inb ((k2 - 1 : Nat) : Int) ((ys.length - j : Nat) : Int) = true from inb_iff.2 (by omega), cond_true, e1, e2, get_nat, get_nat, hg1, hg2, wrap_succ (by omega), wrap_succ (by omega)]
      by_cases q : ys.getD (j + k2) dA = ys.getD (j + (k2 - 1)) dA
      · rw [if_pos q, show P.and (P.ieq (ys.getD (j + k2) dA).1 (ys.getD (j + (k2 - 1)) dA).1) (P.ieq (ys.getD (j + k2) dA).2 (ys.getD (j + (k2 - 1)) dA).2) = true from eqA_iff.2 q]
        rfl
      · rw [if_neg q, show P.and (P.ieq (ys.getD (j + k2) dA).1 (ys.getD (j + (k2 - 1)) dA).1) (P.ieq (ys.getD (j + k2) dA).2 (ys.getD (j + (k2 - 1)) dA).2) = false from by rw [Bool.eq_false_iff]; exact fun z => q (eqA_iff.1 z),
          show P.not false = true from rfl, cond_true, show P.inb (i : Int) (P.len xs) = true from inb_iff.2 (by rw [len_eq]; omega), cond_true]
        rfl
    · have e3 : P.sub (P.len ys) (j : Int) = ((ys.length - j : Nat) : Int) := by simp only [P.sub, len_eq]; omega
      dsimp only
      rw [e3, show P.ilt (k2 : Int) ((ys.length - j : Nat) : Int) = false from by rw [Bool.eq_false_iff, Ne, ilt_iff]; omega]
      rfl
  · simp only [cond_eq, ilt_iff, len_eq]
    rw [if_neg (by omega)]

theorem at_norm (x : List At) (hx : x.length < 9223372036854775808) (hr : x.length * 16 ≤ 140737488355328) : atoms_Norm K x = some (norm x) := by
  have hd : delT K x = some (norm x) := by
    rw [del_spec x hx]
    unfold rest
    have hlen := List.length_filter_le good x
    obtain ⟨s, s1, s2, s3, s4⟩ := sortF_spec (x.filter good) (by omega)
    obtain ⟨r, r1, r2, r3⟩ := compact_spec s (by omega) s4
    rw [s1, bind_some, r1]
    congr 1
    refine (norm_eq ⟨r2, fun z hz => ?_⟩ fun z hz => ?_).symm
    · have := (s3 z).1 ((r3 z).1 hz)
      exact of_decide_eq_true (List.mem_filter.1 this).2
    · rw [r3, s3, List.mem_filter]
      exact ⟨fun h => h.1, fun h => ⟨h, decide_eq_true hz⟩⟩
  rw [norm_form]
  have hroom : P.room (P.add (P.len (P.nil (Int × Int))) (P.len x)) 16 = true := by
    rw [show P.len (P.nil (Int × Int)) = ((0 : Nat) : Int) from rfl, len_eq, room_nat]
    omega
  rw [hroom, cond_true, hd]
  by_cases h0 : P.ilt ((0 : Int)) (P.len x) = true
  · rw [h0]; rfl
  · rw [Bool.eq_false_iff.2 h0, cond_false]
    have : x = [] := by
      rw [ilt_iff, len_eq] at h0
      exact List.length_eq_zero_iff.1 (by omega)
    subst this
    rw [nil_spec fun _ _ => trivial, norm_nil]
    simp [P.amb]
end Go.PL
end
section
/- What the functions on lists of atoms compute. -/
open Go Go.PG Go.PL
set_option linter.unusedVariables false
namespace Go.PL
/-- Few. -/
abbrev Few {α : Type} (l : List α) : Prop := l.length ≤ 1000000

theorem nodup_rises {l : List At} (h : Rises l) : l.Nodup := h.imp fun h e => by subst e; exact ltA_irrefl _ h
theorem insA_length (x : At) : ∀ l : List At, (insA x l).length = l.length + 1
  | [] => rfl
  | y :: l => by simp only [insA]; split <;> simp [insA_length x l]
theorem addA_length (l : List At) (x : At) : (addA l x).length ≤ l.length + 1 := by
  unfold addA; split
  · rw [insA_length]; exact Nat.le_refl _
  · omega
theorem fold_length : ∀ (l acc : List At), (l.foldl addA acc).length ≤ acc.length + l.length
  | [], acc => by simp
  | x :: l, acc => by
    have h1 := fold_length l (addA acc x)
    have h2 := addA_length acc x
    simp only [List.foldl_cons, List.length_cons]
    omega
theorem norm_length (l : List At) : (norm l).length ≤ l.length := by
  have := fold_length l []
  simpa [norm] using this

theorem at_norm' (x : List At) (hx : x.length ≤ 8796093022100) : atoms_Norm K x = some (norm x) := at_norm x (by omega) (by omega)
theorem at_clone (k : Nat) (x : List At) (hx : x.length ≤ 8796093022100) : slices_Clone_api_Atom_api_Atom k x = some x := by
  unfold slices_Clone_api_Atom_api_Atom
  have hroom : P.room (P.add (P.len (P.nil (Int × Int))) (P.len x)) 16 = true := by
    rw [show P.len (P.nil (Int × Int)) = ((0 : Nat) : Int) from rfl, len_eq, room_nat]
    omega
  try dsimp only
  rw [hroom, cond_true, show P.app [] x = x from rfl]
  by_cases h0 : P.ilt ((0 : Int)) (P.len x) = true
  · rw [h0]; rfl
  · rw [Bool.eq_false_iff.2 h0, cond_false]
    have : x = [] := by
      rw [ilt_iff, len_eq] at h0
      exact List.length_eq_zero_iff.1 (by omega)
    subst this
    simp [P.amb]

/-- Are two lists the same? -/
theorem eq_iff_getD {a b : List At} (h : a.length = b.length) : (∀ i, i < a.length → a.getD i dA = b.getD i dA) ↔ a = b := by
  constructor
  · intro q
    refine List.ext_getElem h fun i h1 h2 => ?_
    have := q i h1
    simpa [List.getD_eq_getElem?_getD, h1, h2] using this
  · rintro rfl i _; rfl
theorem ref_same (a b : List At) (ha : a.length ≤ 8796093022100) : ref06_Same K (a, b) = some (decide (a = b)) := by
  unfold ref06_Same
  try dsimp only
  by_cases hl : a.length = b.length
  · rw [show P.ieq (P.len a) (P.len b) = true from ieq_iff.2 (by simp [len_eq, hl]), show P.not true = false from rfl, cond_false]
    rw [iter_all (n := a.length) (e := .inl ()) (r := .inr false) (fun i => a.getD i dA = b.getD i dA) K ?_ ?_ (by unfold K; omega)]
    · rw [bind_some]
      by_cases h : ∀ i, i < a.length → a.getD i dA = b.getD i dA
      · rw [if_pos h, either_inl, decide_eq_true ((eq_iff_getD hl).1 h)]
      · rw [if_neg h, either_inr, decide_eq_false fun q => h ((eq_iff_getD hl).2 q)]
    · intro i hi
      try dsimp only
      rw [show P.ilt (i : Int) (P.len a) = true from ilt_iff.2 (by rw [len_eq]; omega), cond_true, show P.inb (i : Int) (P.len a) = true from inb_iff.2 (by rw [len_eq]; omega), cond_true, show P.inb (i : Int) (P.len b) = true from inb_iff.2 (by rw [len_eq]; omega), cond_true, get_nat, get_nat, wrap_succ (by omega)]
      by_cases q : a.getD i dA = b.getD i dA
      · rw [show P.and (P.ieq (a.getD i dA).1 (b.getD i dA).1) (P.ieq (a.getD i dA).2 (b.getD i dA).2) = true from eqA_iff.2 q, if_pos q]; rfl
      · rw [show P.and (P.ieq (a.getD i dA).1 (b.getD i dA).1) (P.ieq (a.getD i dA).2 (b.getD i dA).2) = false from by rw [Bool.eq_false_iff]; exact fun z => q (eqA_iff.1 z), if_neg q]; rfl
    · try dsimp only
      rw [show P.ilt (a.length : Int) (P.len a) = false from by rw [Bool.eq_false_iff, Ne, ilt_iff, len_eq]; omega]; rfl
  · rw [show P.ieq (P.len a) (P.len b) = false from by rw [Bool.eq_false_iff, Ne, ieq_iff, len_eq, len_eq]; omega, show P.not false = true from rfl, cond_true, decide_eq_false fun q => hl (by rw [q])]

/-- Is an atom in a list? -/
theorem mem_iff_getD {l : List At} {x : At} : x ∈ l ↔ ∃ i, i < l.length ∧ l.getD i dA = x := by
  rw [List.mem_iff_getElem]
  constructor
  · rintro ⟨i, h, rfl⟩; exact ⟨i, h, by simp [List.getD_eq_getElem?_getD, h]⟩
  · rintro ⟨i, h, rfl⟩; exact ⟨i, h, by simp [List.getD_eq_getElem?_getD, h]⟩
theorem ref_has (l : List At) (x : At) (hl : l.length ≤ 8796093022100) : ref06_Has K (l, x) = some (decide (x ∈ l)) := by
  unfold ref06_Has
  try dsimp only
  rw [iter_all (n := l.length) (e := .inl ()) (r := .inr true) (fun i => l.getD i dA ≠ x) K ?_ ?_ (by unfold K; omega)]
  · rw [bind_some]
    by_cases h : ∀ i, i < l.length → l.getD i dA ≠ x
    · rw [if_pos h, either_inl, decide_eq_false]
      intro q
      obtain ⟨i, h1, h2⟩ := mem_iff_getD.1 q
      exact h i h1 h2
    · rw [if_neg h, either_inr, decide_eq_true]
      refine mem_iff_getD.2 (Classical.byContradiction fun q => h fun i hi e => q ⟨i, hi, e⟩)
  · intro i hi
    try dsimp only
    rw [show P.ilt (i : Int) (P.len l) = true from ilt_iff.2 (by rw [len_eq]; omega), cond_true, show P.inb (i : Int) (P.len l) = true from inb_iff.2 (by rw [len_eq]; omega), cond_true, get_nat, wrap_succ (by omega)]
    by_cases q : l.getD i dA = x
    · rw [show P.and (P.ieq (l.getD i dA).1 x.1) (P.ieq (l.getD i dA).2 x.2) = true from eqA_iff.2 q, if_neg (fun z => z q)]; rfl
    · rw [show P.and (P.ieq (l.getD i dA).1 x.1) (P.ieq (l.getD i dA).2 x.2) = false from by rw [Bool.eq_false_iff]; exact fun z => q (eqA_iff.1 z), if_pos q]; rfl
  · try dsimp only
    rw [show P.ilt (l.length : Int) (P.len l) = false from by rw [Bool.eq_false_iff, Ne, ilt_iff, len_eq]; omega]; rfl
/-- Is each atom of a list in another one? -/
def Within (a b : List At) : Prop := ∀ z, z ∈ a → z ∈ b
instance (a b : List At) : Decidable (Within a b) := by unfold Within; exact inferInstance
theorem within_iff {a b : List At} : (∀ i, i < a.length → a.getD i dA ∈ b) ↔ Within a b := by
  constructor
  · intro h z hz
    obtain ⟨i, h1, rfl⟩ := mem_iff_getD.1 hz
    exact h i h1
  · intro h i hi
    exact h _ (mem_iff_getD.2 ⟨i, hi, rfl⟩)
theorem within_gen (H : Nat → List At × At → Option Bool) (a b : List At) (ha : a.length ≤ 8796093022100) (hh : ∀ x, H K (b, x) = some (decide (x ∈ b))) :
    P.bind (P.iter K (fun (y : Int) => P.cond (P.ilt y (P.len a)) (P.cond (P.inb y (P.len a)) (P.bind (H K (b, P.get a y ((0 : Int), (0 : Int)))) fun (r : Bool) => P.cond (P.not r) (some (Sum.inr (Sum.inr false))) (some (Sum.inl (P.wrap IntKind.i64 (P.add y ((1 : Int))))))) none) (some (Sum.inr (Sum.inl PUnit.unit)))) ((0 : Int))) (P.either (fun (z : PUnit) => some true) fun (r : Bool) => some r) = some (decide (Within a b)) := by
  rw [iter_all (n := a.length) (e := .inl ()) (r := .inr false) (fun i => a.getD i dA ∈ b) K ?_ ?_ (by unfold K; omega)]
  · rw [bind_some]
    by_cases h : ∀ i, i < a.length → a.getD i dA ∈ b
    · rw [if_pos h, either_inl, decide_eq_true (within_iff.1 h)]
    · rw [if_neg h, either_inr, decide_eq_false fun q => h (within_iff.2 q)]
  · intro i hi
    try dsimp only
    rw [show P.ilt (i : Int) (P.len a) = true from ilt_iff.2 (by rw [len_eq]; omega), cond_true, show P.inb (i : Int) (P.len a) = true from inb_iff.2 (by rw [len_eq]; omega), cond_true, get_nat, hh, bind_some, wrap_succ (by omega)]
    by_cases q : a.getD i dA ∈ b
    · rw [if_pos q, decide_eq_true q]; rfl
    · rw [if_neg q, decide_eq_false q]; rfl
  · try dsimp only
    rw [show P.ilt (a.length : Int) (P.len a) = false from by rw [Bool.eq_false_iff, Ne, ilt_iff, len_eq]; omega]; rfl
theorem ref_within (a b : List At) (ha : a.length ≤ 8796093022100) (hb : b.length ≤ 8796093022100) : ref06_Within K (a, b) = some (decide (Within a b)) := within_gen ref06_Has a b ha fun x => ref_has b x hb

end Go.PL
end
section
/- What the functions on lists of atoms compute: unions, renamed lists, the document's answers. -/
open Go Go.PG Go.PL
set_option linter.unusedVariables false
namespace Go.PL
theorem ref_right (k : Nat) (a : At) : ref06_Right k a = some (decide (RightA a)) := by
  obtain ⟨a, b⟩ := a
  unfold ref06_Right
  dsimp only
  simp only [cond_eq, ieq_iff, ile_iff]
  repeat' split
  all_goals
    rw [Option.some.injEq, Bool.eq_iff_iff, decide_eq_true_eq]
    simp only [RightA, ieq_iff, ile_iff, Bool.false_eq_true, false_iff]
    omega
theorem ref_less (k : Nat) (a b : At) : ref06_Less k (a, b) = some (decide (ltA a b)) := by
  obtain ⟨a1, a2⟩ := a; obtain ⟨b1, b2⟩ := b
  unfold ref06_Less
  dsimp only
  simp only [cond_eq, ieq_iff, ilt_iff]
  repeat' split
  all_goals
    rw [Option.some.injEq, Bool.eq_iff_iff, decide_eq_true_eq]
    simp only [ltA, ilt_iff, true_iff, Bool.false_eq_true, false_iff]
    omega
theorem room1 (l : List At) (x : At) (h : l.length ≤ 8796093022200) : P.room (P.add (P.len l) (P.len [x])) 16 = true := by
  rw [len_eq, len_eq, room_nat]; simp; omega

def stepA (x : At) (s : List At × Bool) (y : At) : List At × Bool := if s.2 = false ∧ ltA x y then (s.1 ++ [x] ++ [y], true) else (s.1 ++ [y], s.2)
def finA (x : At) (s : List At × Bool) : List At := if s.2 = true then s.1 else s.1 ++ [x]
/-- What is laid of a list, an atom put in where it belongs. -/
def layA (x : At) (l : List At) (i : Nat) : List At × Bool := (l.take i).foldl (stepA x) ([], false)
theorem layA_succ {x : At} {l : List At} {i : Nat} (h : i < l.length) : layA x l (i + 1) = stepA x (layA x l i) (l.getD i dA) := by
  unfold layA
  rw [take_getD h, List.foldl_append]
  rfl
theorem lay_len (x : At) (l : List At) : ∀ i, i ≤ l.length → (layA x l i).1.length ≤ i + 1 ∧ ((layA x l i).2 = false → (layA x l i).1.length ≤ i)
  | 0, _ => by simp [layA]
  | i + 1, h => by
    obtain ⟨h1, h2⟩ := lay_len x l i (by omega)
    rw [layA_succ (by omega)]
    unfold stepA
    split
    · rename_i q
      have := h2 q.1
      simp; omega
    · simp
      exact ⟨h1, fun q => h2 q⟩
theorem step_true (x : At) : ∀ (l acc : List At), l.foldl (stepA x) (acc, true) = (acc ++ l, true)
  | [], acc => by simp
  | y :: l, acc => by
    rw [List.foldl_cons, show stepA x (acc, true) y = (acc ++ [y], true) from by simp [stepA], step_true x l]
    simp
theorem step_false (x : At) : ∀ (l acc : List At), finA x (l.foldl (stepA x) (acc, false)) = acc ++ insA x l
  | [], acc => by simp [insA, finA]
  | y :: l, acc => by
    rw [List.foldl_cons]
    unfold insA
    by_cases q : ltA x y
    · rw [show stepA x (acc, false) y = (acc ++ [x] ++ [y], true) from by simp [stepA, q], step_true, if_pos q]; simp [finA]
    · rw [show stepA x (acc, false) y = (acc ++ [y], false) from by simp [stepA, q], step_false x l, if_neg q]; simp
theorem lay_all (x : At) (l : List At) : finA x (layA x l l.length) = insA x l := by
  have := step_false x l []
  unfold layA
  rw [List.take_length]
  simpa using this

theorem ref_add (l : List At) (x : At) (hl : l.length ≤ 8796093022100) : ref06_add K (l, x) = some (addA l x) := by
  unfold ref06_add
  dsimp only
  rw [ref_right, bind_some]
  by_cases h1 : RightA x
  · rw [decide_eq_true h1, show P.not true = false from rfl, cond_false, ref_has l x hl, bind_some]
    by_cases h2 : x ∈ l
    · rw [decide_eq_true h2, cond_true]
      unfold addA
      rw [if_neg (fun q => q.2 h2)]
    · rw [decide_eq_false h2, cond_false]
      unfold addA
      rw [if_pos ⟨h1, h2⟩, ← lay_all]
      have run : ∀ f : List At × Bool × Int → Option ((List At × Bool × Int) ⊕ ((List At × Bool) ⊕ List At)),
          (∀ i, i < l.length → f ((layA x l i).1, (layA x l i).2, (i : Int)) = some (.inl ((layA x l (i + 1)).1, (layA x l (i + 1)).2, ((i + 1 : Nat) : Int)))) →
          f ((layA x l l.length).1, (layA x l l.length).2, (l.length : Int)) = some (.inr (.inl (layA x l l.length))) → P.iter K f ([], false, (0 : Int)) = some (.inl (layA x l l.length)) := by
        intro f hs he
        exact iter_run (fun i => ((layA x l i).1, (layA x l i).2, (i : Int))) _ l.length 0 K (by unfold K; omega) (fun j hj => by simpa using hs j hj) (by simpa using he)
      rw [run _ (fun i hi => ?_) ?_]
      · rw [bind_some, either_inl]
        cases hb : (layA x l l.length).2
        · rw [show P.not false = true from rfl, cond_true, room1 _ _ (by have := (lay_len x l l.length (Nat.le_refl _)).1; omega), cond_true]
          unfold finA
          rw [if_neg (by simp [hb])]; rfl
        · rw [show P.not true = false from rfl, cond_false]
          unfold finA
          rw [if_pos hb]
      · try dsimp only
        rw [show P.ilt (l.length : Int) (P.len l) = false from by rw [Bool.eq_false_iff, Ne, ilt_iff, len_eq]; omega]; rfl
      · try dsimp only
        have hr := (lay_len x l i (by omega)).1
        have r1 : P.room (P.add (P.len (layA x l i).1) (P.len [x])) 16 = true := room1 _ _ (by omega)
        have r2 : P.room (P.add (P.len (layA x l i).1) (P.len [l.getD i dA])) 16 = true := room1 _ _ (by omega)
        have r3 : P.room (P.add (P.len (P.app (layA x l i).1 [x])) (P.len [l.getD i dA])) 16 = true := room1 _ _ (by simp [P.app]; omega)
        simp only [show P.ilt (i : Int) (P.len l) = true from ilt_iff.2 (by rw [len_eq]; omega), show P.inb (i : Int) (P.len l) = true from inb_iff.2 (by rw [len_eq]; omega), cond_true, get_nat, wrap_succ (show i + 1 < 9223372036854775808 by omega), r1, r2, r3]
        rw [ref_less, bind_some, layA_succ hi]
        unfold stepA
        cases hb : (layA x l i).2
        · rw [show P.not false = true from rfl, cond_true]
          by_cases q : ltA x (l.getD i dA)
          · rw [decide_eq_true q, cond_true, if_pos ⟨rfl, q⟩]; rfl
          · rw [decide_eq_false q, cond_false, if_neg (fun z => q z.2)]; rfl
        · rw [show P.not true = false from rfl, cond_false, if_neg (fun z => by cases z.1)]; rfl
  · rw [decide_eq_false h1, show P.not false = true from rfl, cond_true]
    unfold addA
    rw [if_neg (fun q => h1 q.1)]

theorem fold_add (l acc : List At) (h : acc.length + l.length ≤ 8796093022000) :
    P.bind (P.iter K (fun (y : List (Int × Int) × Int) => P.cond (P.ilt y.snd (P.len l)) (P.cond (P.inb y.snd (P.len l)) (P.bind (ref06_add K (y.fst, P.get l y.snd ((0 : Int), (0 : Int)))) fun (r : List (Int × Int)) => some (Sum.inl (r, P.wrap IntKind.i64 (P.add y.snd ((1 : Int)))))) none) (some (Sum.inr (Sum.inl y.fst)))) (acc, (0 : Int))) (P.either (fun (z : List (Int × Int)) => some z) fun (r : List (Int × Int)) => some r) = some (l.foldl addA acc) := by
  have run : ∀ f : List At × Int → Option ((List At × Int) ⊕ (List At ⊕ List At)),
      (∀ i, i < l.length → f ((l.take i).foldl addA acc, (i : Int)) = some (.inl ((l.take (i + 1)).foldl addA acc, ((i + 1 : Nat) : Int)))) →
      f (l.foldl addA acc, (l.length : Int)) = some (.inr (.inl (l.foldl addA acc))) → P.iter K f (acc, (0 : Int)) = some (.inl (l.foldl addA acc)) := by
    intro f hs he
    exact iter_run (fun i => ((l.take i).foldl addA acc, (i : Int))) _ l.length 0 K (by unfold K; omega) (fun j hj => by simpa using hs j hj) (by simpa using he)
  rw [run _ (fun i hi => ?_) ?_]
  · rfl
  · try dsimp only
    rw [show P.ilt (l.length : Int) (P.len l) = false from by rw [Bool.eq_false_iff, Ne, ilt_iff, len_eq]; omega]; rfl
  · try dsimp only
    have hr := fold_length (l.take i) acc
    rw [List.length_take] at hr
    rw [show P.ilt (i : Int) (P.len l) = true from ilt_iff.2 (by rw [len_eq]; omega), cond_true, show P.inb (i : Int) (P.len l) = true from inb_iff.2 (by rw [len_eq]; omega), cond_true, get_nat, wrap_succ (by omega), ref_add _ _ (by omega), bind_some, take_getD hi, List.foldl_append]
    rfl
theorem ref_norm (l : List At) (h : l.length ≤ 8796093022000) : ref06_Norm K l = some (norm l) := fold_add l [] (by simpa using h)
theorem ref_may (l : List At) (h : l.length ≤ 8796093022000) : ref06_May K l = some (decide (l = norm l)) := by
  unfold ref06_May
  rw [ref_norm l h, bind_some, ref_same l _ (by omega), bind_some]
theorem norm_append (a b : List At) : norm (a ++ b) = b.foldl addA (norm a) := by unfold norm; rw [List.foldl_append]
theorem ref_union (a b : List At) (h : a.length + b.length ≤ 8796093022000) : ref06_Union K (a, b) = some (norm (a ++ b)) := by
  unfold ref06_Union
  dsimp only
  rw [ref_norm a (by omega), bind_some, norm_append]
  exact fold_add b (norm a) (by have := norm_length a; omega)
end Go.PL
end
section
/- What the functions on lists of atoms compute: atoms.Union, renamed lists. -/
open Go Go.PG Go.PL
set_option linter.unusedVariables false
namespace Go.PL
theorem wrap0 : P.wrap IntKind.i64 (P.sub ((0 : Int)) ((0 : Int))) = 0 := by rw [wrap_i64 (by decide) (by decide)]; rfl
theorem wrap_sub0 {n : Nat} (h : n < 9223372036854775808) : P.wrap IntKind.i64 (P.sub (n : Int) (0 : Int)) = (n : Int) := by
  rw [show P.sub (n : Int) (0 : Int) = n from by simp [P.sub], wrap_nat h]
theorem at_concat (a b : List At) (h : a.length + b.length ≤ 8796093022000) : slices_Concat_api_Atom_api_Atom K [a, b] = some (a ++ b) := by
  have run1 : ∀ f : Int × Int → Option ((Int × Int) ⊕ (Int ⊕ List At)), f (0, 0) = some (.inl ((a.length : Int), 1)) → f ((a.length : Int), 1) = some (.inl (((a.length + b.length : Nat) : Int), 2)) →
      f (((a.length + b.length : Nat) : Int), 2) = some (.inr (.inl ((a.length + b.length : Nat) : Int))) → P.iter K f (0, 0) = some (.inl ((a.length + b.length : Nat) : Int)) := by
    intro f h1 h2 h3
    rw [iter_step (by unfold K; omega) h1, iter_step (by unfold K; omega) h2, iter_done (by unfold K; omega) h3]
  have run2 : ∀ f : List At × Int → Option ((List At × Int) ⊕ (List At ⊕ List At)), f ([], 0) = some (.inl (a, 1)) → f (a, 1) = some (.inl (a ++ b, 2)) →
      f (a ++ b, 2) = some (.inr (.inl (a ++ b))) → P.iter K f ([], 0) = some (.inl (a ++ b)) := by
    intro f h1 h2 h3
    rw [iter_step (by unfold K; omega) h1, iter_step (by unfold K; omega) h2, iter_done (by unfold K; omega) h3]
  have l0 : P.ilt (0 : Int) (P.len [a, b]) = true := rfl
  have l1 : P.ilt (1 : Int) (P.len [a, b]) = true := rfl
  have l2 : P.ilt (2 : Int) (P.len [a, b]) = false := rfl
  have i0 : P.inb (0 : Int) (P.len [a, b]) = true := rfl
  have i1 : P.inb (1 : Int) (P.len [a, b]) = true := rfl
  have g0 : P.get [a, b] (0 : Int) [] = a := rfl
  have g1 : P.get [a, b] (1 : Int) [] = b := rfl
  have w1 : P.wrap IntKind.i64 (P.add (0 : Int) (1 : Int)) = 1 := by rw [wrap_i64 (by decide) (by decide)]; rfl
  have w2 : P.wrap IntKind.i64 (P.add (1 : Int) (1 : Int)) = 2 := by rw [wrap_i64 (by decide) (by decide)]; rfl
  have s1 : P.wrap IntKind.i64 (P.add (0 : Int) (P.len a)) = (a.length : Int) := by rw [show P.add (0 : Int) (P.len a) = ((a.length : Nat) : Int) from by simp [P.add, P.len], wrap_nat (by omega)]
  have s2 : P.wrap IntKind.i64 (P.add (a.length : Int) (P.len b)) = ((a.length + b.length : Nat) : Int) := by rw [show P.add (a.length : Int) (P.len b) = ((a.length + b.length : Nat) : Int) from by simp [P.add, P.len], wrap_nat (by omega)]
  have loop : ∀ E : List At, E = [] → P.bind (P.iter K (fun (y : List (Int × Int) × Int) => P.cond (P.ilt y.snd (P.len [a, b])) (P.cond (P.inb y.snd (P.len [a, b])) (P.cond (P.room (P.add (P.len y.fst) (P.len (P.get [a, b] y.snd []))) 16) (some (Sum.inl (P.app y.fst (P.get [a, b] y.snd []), P.wrap IntKind.i64 (P.add y.snd ((1 : Int)))))) none) none) (some (Sum.inr (Sum.inl y.fst)))) (E, (0 : Int))) (P.either (fun (z : List (Int × Int)) => some z) fun (r : List (Int × Int)) => some r) = some (a ++ b) := by
    rintro E rfl
    rw [run2 _ ?_ ?_ ?_]
    · rfl
    · try dsimp only
      rw [l0, cond_true, i0, cond_true, g0, w1, show P.room (P.add (P.len ([] : List At)) (P.len a)) 16 = true from by rw [len_eq, len_eq, room_nat]; simp; omega]; rfl
    · try dsimp only
      rw [l1, cond_true, i1, cond_true, g1, w2, show P.room (P.add (P.len a) (P.len b)) 16 = true from by rw [len_eq, len_eq, room_nat]; omega]; rfl
    · try dsimp only
      rw [l2]; rfl
  unfold slices_Concat_api_Atom_api_Atom
  rw [run1 _ ?_ ?_ ?_]
  · rw [bind_some, either_inl, show P.ilt (((a.length + b.length : Nat) : Int)) (0 : Int) = false from by rw [Bool.eq_false_iff, Ne, ilt_iff]; omega, cond_false, wrap0, wrap_sub0 (by omega)]
    by_cases h0 : P.ilt (0 : Int) (((a.length + b.length : Nat) : Int)) = true
    · rw [h0, cond_true, show P.cut (0 : Int) 0 0 = true from by decide, cond_true, cond_true, show P.room (((a.length + b.length : Nat) : Int)) 16 = true from by rw [room_iff]; omega, cond_true, show P.cut (0 : Int) 0 (P.len (P.rep (((a.length + b.length : Nat) : Int)) (((0 : Int), (0 : Int)) : At))) = true from by rw [cut_iff, len_eq]; omega, cond_true]
      exact loop _ (by simp [P.sub_])
    · rw [Bool.eq_false_iff.2 h0, cond_false]
      exact loop _ rfl
  · try dsimp only
    rw [l0, cond_true, i0, cond_true, g0, w1, s1, show P.ilt (a.length : Int) (0 : Int) = false from by rw [Bool.eq_false_iff, Ne, ilt_iff]; omega]; rfl
  · try dsimp only
    rw [l1, cond_true, i1, cond_true, g1, w2, s2, show P.ilt (((a.length + b.length : Nat) : Int)) (0 : Int) = false from by rw [Bool.eq_false_iff, Ne, ilt_iff]; omega]; rfl
  · try dsimp only
    rw [l2]; rfl
/-- An atom, its site's newest object grown old. -/
def renA (s : Int) (x : At) : At := if x = (4, s) then (5, s) else x
theorem renA_eq {s : Int} {x : At} : renA s x = if x = (4, s) then (5, x.2) else x := by
  unfold renA; split
  · rename_i h; subst h; rfl
  · rfl

end Go.PL
end
section
/- What atoms.Rename computes. -/
open Go Go.PG Go.PL
set_option linter.unusedVariables false
namespace Go.PL
def mixR (s : Int) (l : List At) (i : Nat) : List At := (l.take i).map (renA s) ++ l.drop i
theorem mixR_len (s : Int) (l : List At) (i : Nat) : (mixR s l i).length = l.length := by simp [mixR]; omega
theorem mixR_get (s : Int) (l : List At) {i : Nat} (h : i < l.length) : (mixR s l i).getD i dA = l.getD i dA := by
  have hl : ((l.take i).map (renA s)).length = i := by rw [List.length_map, List.length_take]; omega
  unfold mixR
  rw [List.getD_eq_getElem?_getD, List.getElem?_append_right (by omega), hl, List.getElem?_drop, Nat.sub_self, Nat.add_zero, ← List.getD_eq_getElem?_getD]
theorem mixR_set (s : Int) (l : List At) {i : Nat} (h : i < l.length) : (mixR s l i).set i (renA s (l.getD i dA)) = mixR s l (i + 1) := by
  have hl : ((l.take i).map (renA s)).length = i := by rw [List.length_map, List.length_take]; omega
  unfold mixR
  rw [List.set_append_right _ _ (by omega), hl, Nat.sub_self, drop_getD h, List.set_cons_zero, take_getD h, List.map_append]
  simp
theorem mixR_same (s : Int) (l : List At) {i : Nat} (h : i < l.length) (q : renA s (l.getD i dA) = l.getD i dA) : mixR s l i = mixR s l (i + 1) := by
  unfold mixR
  rw [drop_getD h, take_getD h, List.map_append, List.map_singleton, q]
  simp
end Go.PL
end
section
/- Shapes: the order of fields, what is found. -/
open Go Go.PG Go.PL
set_option linter.unusedVariables false
namespace Go.PL
abbrev Fd := ByteArray × Bool × List At
abbrev Sp := List Fd × List At
abbrev dF : Fd := (⟨#[]⟩, false, [])
abbrev RisesF (l : List Fd) : Prop := l.Pairwise fun a b => ltS a.1 b.1
/-- The field of a name. -/
def get (l : List Fd) (n : ByteArray) : Option Fd := l.find? fun f => decide (f.1 = n)
theorem get_name {l : List Fd} {n : ByteArray} {f : Fd} (h : get l n = some f) : f.1 = n := by
  have := List.find?_some h
  exact of_decide_eq_true this
theorem get_mem {l : List Fd} {n : ByteArray} {f : Fd} (h : get l n = some f) : f ∈ l := List.mem_of_find?_eq_some h
theorem get_none {l : List Fd} {n : ByteArray} : get l n = none ↔ ∀ f, f ∈ l → f.1 ≠ n := by
  unfold get
  rw [List.find?_eq_none]
  constructor
  · intro h f hf e
    exact h f hf (decide_eq_true e)
  · intro h f hf e
    exact h f hf (of_decide_eq_true e)
theorem risesF_inj {l : List Fd} (h : RisesF l) {f g : Fd} (hf : f ∈ l) (hg : g ∈ l) (e : f.1 = g.1) : f = g := by
  induction l with
  | nil => cases hf
  | cons a l ih =>
    obtain ⟨h1, h2⟩ := List.pairwise_cons.1 h
    rcases List.mem_cons.1 hf with rfl | hf'
    · rcases List.mem_cons.1 hg with rfl | hg'
      · rfl
      · exact absurd (h1 g hg') (by rw [e]; exact ltS_irrefl _)
    · rcases List.mem_cons.1 hg with rfl | hg'
      · exact absurd (h1 f hf') (by rw [e]; exact ltS_irrefl _)
      · exact ih h2 hf' hg'
theorem get_of_mem {l : List Fd} (h : RisesF l) {f : Fd} (hf : f ∈ l) : get l f.1 = some f := by
  cases q : get l f.1 with
  | none => exact absurd rfl (get_none.1 q f hf)
  | some g => rw [risesF_inj h (get_mem q) hf (get_name q)]
/-- Fields that rise are known by what is found. -/
theorem risesF_ext : ∀ {l m : List Fd}, RisesF l → RisesF m → (∀ n, get l n = get m n) → l = m := by
  intro l
  induction l with
  | nil =>
    intro m _ _ h
    cases m with
    | nil => rfl
    | cons b m =>
      have := h b.1
      simp [get] at this
  | cons a l ih =>
    intro m hl hm h
    cases m with
    | nil =>
      have := h a.1
      simp [get] at this
    | cons b m =>
      obtain ⟨h1, h2⟩ := List.pairwise_cons.1 hl
      obtain ⟨h3, h4⟩ := List.pairwise_cons.1 hm
      have ea := h a.1
      rw [get_of_mem hl (by simp)] at ea
      have eb := h b.1
      rw [get_of_mem hm (by simp)] at eb
      have hab : a = b := by
        rcases List.mem_cons.1 (get_mem ea.symm) with q | q
        · exact q
        · rcases List.mem_cons.1 (get_mem eb) with q' | q'
          · exact q'.symm
          · exact absurd (ltS_trans (h3 a q) (h1 b q')) (ltS_irrefl _)
      subst hab
      congr 1
      refine ih h2 h4 fun n => ?_
      by_cases q : a.1 = n
      · subst q
        have n1 : get l a.1 = none := get_none.2 fun f hf e => absurd (h1 f hf) (by rw [e]; exact ltS_irrefl _)
        have n2 : get m a.1 = none := get_none.2 fun f hf e => absurd (h3 f hf) (by rw [e]; exact ltS_irrefl _)
        rw [n1, n2]
      · have := h n
        simpa [get, q] using this
/-- A field put where it belongs, in the place of one of its name. -/
def put (l : List Fd) (f : Fd) : List Fd := match l with
  | [] => [f]
  | g :: r => if ltS f.1 g.1 then f :: g :: r else if f.1 = g.1 then f :: r else g :: put r f
theorem put_names {f g : Fd} : ∀ {l : List Fd}, g ∈ put l f → g = f ∨ (g ∈ l ∧ True) := by
  intro l
  induction l with
  | nil => intro h; simp only [put, List.mem_singleton] at h; exact .inl h
  | cons a l ih =>
    intro h
    simp only [put] at h
    split at h
    · rcases List.mem_cons.1 h with h | h
      · exact .inl h
      · exact .inr ⟨h, trivial⟩
    · split at h
      · rcases List.mem_cons.1 h with h | h
        · exact .inl h
        · exact .inr ⟨List.mem_cons_of_mem _ h, trivial⟩
      · rcases List.mem_cons.1 h with h | h
        · exact .inr ⟨by rw [h]; simp, trivial⟩
        · rcases ih h with q | q
          · exact .inl q
          · exact .inr ⟨List.mem_cons_of_mem _ q.1, trivial⟩
theorem put_rises {f : Fd} : ∀ {l : List Fd}, RisesF l → RisesF (put l f) := by
  intro l
  induction l with
  | nil => intro _; exact List.pairwise_singleton _ _
  | cons a l ih =>
    intro h
    obtain ⟨h1, h2⟩ := List.pairwise_cons.1 h
    simp only [put]
    split
    · rename_i q
      refine List.pairwise_cons.2 ⟨fun g hg => ?_, h⟩
      rcases List.mem_cons.1 hg with rfl | hg
      · exact q
      · exact ltS_trans q (h1 g hg)
    · rename_i q
      split
      · rename_i e
        exact List.pairwise_cons.2 ⟨fun g hg => by rw [e]; exact h1 g hg, h2⟩
      · rename_i e
        refine List.pairwise_cons.2 ⟨fun g hg => ?_, ih h2⟩
        rcases put_names hg with rfl | hg
        · rcases ltS_tri g.1 a.1 with z | z | z
          · exact absurd z q
          · exact absurd z e
          · exact z
        · exact h1 g hg.1
theorem get_put {f : Fd} {n : ByteArray} : ∀ {l : List Fd}, RisesF l → get (put l f) n = if f.1 = n then some f else get l n := by
  intro l
  induction l with
  | nil => intro _; simp only [put, get, List.find?_cons, List.find?_nil]; by_cases q : f.1 = n <;> simp [q]
  | cons a l ih =>
    intro h
    obtain ⟨h1, h2⟩ := List.pairwise_cons.1 h
    simp only [put]
    split
    · simp only [get, List.find?_cons]
      by_cases q : f.1 = n <;> simp [q]
    · split
      · rename_i e
        simp only [get, List.find?_cons]
        by_cases q : f.1 = n
        · simp [q]
        · have : ¬ a.1 = n := by rw [← e]; exact q
          simp [q, this]
      · rename_i e1 e
        have := ih h2
        simp only [get, List.find?_cons] at this ⊢
        by_cases q : a.1 = n
        · have : ¬ f.1 = n := by rw [← q]; exact e
          simp [q, this]
        · simp only [q, decide_false]
          exact this
end Go.PL
end
section
/- Shapes: the place of a name among fields. -/
open Go Go.PG Go.PL
set_option linter.unusedVariables false
namespace Go.PL
/-- How many fields stand ahead of a name. -/
def pos (l : List Fd) (n : ByteArray) : Nat := match l with
  | [] => 0
  | f :: r => if ltS f.1 n then pos r n + 1 else 0
theorem pos_le (n : ByteArray) : ∀ l : List Fd, pos l n ≤ l.length
  | [] => Nat.le_refl _
  | f :: r => by
    simp only [pos]; split
    · simp; exact pos_le n r
    · simp
theorem lt_pos {n : ByteArray} : ∀ {l : List Fd}, RisesF l → ∀ i, i < l.length → (i < pos l n ↔ ltS (l.getD i dF).1 n) := by
  intro l
  induction l with
  | nil => intro _ i h; simp at h
  | cons f r ih =>
    intro h i hi
    obtain ⟨h1, h2⟩ := List.pairwise_cons.1 h
    simp only [pos]
    cases i with
    | zero =>
      split
      · rename_i q; simp [q]
      · rename_i q; simp [q]
    | succ i =>
      simp only [List.length_cons] at hi
      have := ih h2 i (by omega)
      simp only [List.getD_cons_succ]
      split
      · rw [← this]; omega
      · rename_i q
        refine ⟨fun z => by omega, fun z => ?_⟩
        exfalso
        have hm : r.getD i dF ∈ r := by
          rw [List.getD_eq_getElem?_getD, List.getElem?_eq_getElem (by omega)]
          exact List.getElem_mem _
        exact q (ltS_trans (h1 _ hm) z)
/-- What stands at the place. -/
theorem at_pos {n : ByteArray} : ∀ {l : List Fd}, RisesF l → (get l n).isSome = (decide (pos l n < l.length) && decide ((l.getD (pos l n) dF).1 = n)) := by
  intro l
  induction l with
  | nil => intro _; simp [get, pos]
  | cons f r ih =>
    intro h
    obtain ⟨h1, h2⟩ := List.pairwise_cons.1 h
    simp only [pos]
    split
    · rename_i q
      have hne : f.1 ≠ n := fun e => by rw [e] at q; exact ltS_irrefl _ q
      have := ih h2
      simp only [get, List.find?_cons, hne, decide_false, List.getD_cons_succ, List.length_cons] at this ⊢
      rw [this]
      simp
    · rename_i q
      simp only [List.getD_cons_zero, List.length_cons]
      by_cases e : f.1 = n
      · simp [get, e]
      · have : get (f :: r) n = none := get_none.2 fun g hg e' => by
          rcases List.mem_cons.1 hg with rfl | hg
          · exact e e'
          · exact q (by rw [← e']; exact h1 g hg)
        rw [this]
        simp [e]
theorem get_at_pos {n : ByteArray} {l : List Fd} (h : RisesF l) (hs : (get l n).isSome = true) : get l n = some (l.getD (pos l n) dF) := by
  rw [at_pos h, Bool.and_eq_true, decide_eq_true_eq, decide_eq_true_eq] at hs
  have hm : l.getD (pos l n) dF ∈ l := by
    rw [List.getD_eq_getElem?_getD, List.getElem?_eq_getElem hs.1]
    exact List.getElem_mem _
  have := get_of_mem h hm
  rwa [hs.2] at this
theorem put_eq {f : Fd} : ∀ {l : List Fd}, RisesF l → put l f = if (get l f.1).isSome = true then l.set (pos l f.1) f else l.take (pos l f.1) ++ [f] ++ l.drop (pos l f.1) := by
  intro l
  induction l with
  | nil => intro _; simp [put, get, pos]
  | cons a r ih =>
    intro h
    obtain ⟨h1, h2⟩ := List.pairwise_cons.1 h
    simp only [put, pos]
    split
    · rename_i q
      have n1 : ¬ ltS a.1 f.1 := ltS_asymm q
      have : get (a :: r) f.1 = none := get_none.2 fun g hg e => by
        rcases List.mem_cons.1 hg with rfl | hg
        · rw [e] at q; exact ltS_irrefl _ q
        · exact ltS_irrefl f.1 (by have := ltS_trans q (h1 g hg); rwa [e] at this)
      rw [this, if_neg n1]
      simp
    · rename_i q
      split
      · rename_i e
        have : (get (a :: r) f.1).isSome = true := by simp [get, e]
        rw [if_pos this, if_neg (show ¬ ltS a.1 f.1 by rw [e]; exact ltS_irrefl _)]
        simp
      · rename_i e
        have lt : ltS a.1 f.1 := by
          rcases ltS_tri f.1 a.1 with z | z | z
          · exact absurd z q
          · exact absurd z e
          · exact z
        rw [if_pos lt, ih h2]
        have : (get (a :: r) f.1).isSome = (get r f.1).isSome := by
          simp [get, Ne.symm e]
        rw [this]
        split
        · simp
        · simp

theorem half {i j : Nat} (h : i + j < 9223372036854775808) : P.wrap IntKind.i64 (P.shrk IntKind.u64 (P.wrap IntKind.u64 (P.wrap IntKind.i64 (P.add (i : Int) (j : Int)))) (1 : Int)) = (((i + j) / 2 : Nat) : Int) := by
  rw [show P.add (i : Int) (j : Int) = ((i + j : Nat) : Int) from by simp [P.add], wrap_nat h, wrap_u64 (by omega) (by omega)]
  have : P.shrk IntKind.u64 ((i + j : Nat) : Int) (1 : Int) = (((i + j) / 2 : Nat) : Int) := by
    simp only [P.shrk]
    rw [show (2 : Int) ^ min (1 : Int).toNat IntKind.u64.bits = 2 from by decide, Int.fdiv_eq_ediv_of_nonneg _ (by decide)]
    omega
  rw [this, wrap_nat (by omega)]

end Go.PL
end

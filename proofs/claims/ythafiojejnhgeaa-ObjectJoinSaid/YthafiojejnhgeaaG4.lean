/- Lemmas for the claim. -/
import Derived.Test.YthafiojejnhgeaaProg
import Derived.KernelRfl
import Derived.Test.YthafiojejnhgeaaG3
import Derived.Lib.Strings
import Derived.Lib.Slices
import Derived.Lib.Walk
import Derived.Lib.Bytealg
import Derived.Test.YthafiojejnhgeaaG1
import Derived.Laws.Strings
set_option linter.all false
section
open Go Go.PG Go.Proofs
set_option maxRecDepth 1000000
set_option maxHeartbeats 4000000
abbrev T_api_Atom : Ty := .st (.pair (.int .i64) (.int .i64))
abbrev T_api_Field : Ty := .st (.pair .str (.pair .bool (.slice T_api_Atom)))
abbrev T_api_Shape : Ty := .st (.pair (.slice T_api_Field) (.slice T_api_Atom))
abbrev T_api_Bind : Ty := .st (.pair .str (.slice T_api_Atom))
abbrev T_api_Loc : Ty := .st (.pair T_api_Atom T_api_Shape)
abbrev T_api_State : Ty := .st (.pair .bool (.pair (.slice T_api_Bind) (.slice T_api_Loc)))
noncomputable def T : List (Nat × TyRow) := [(3, ⟨(.int .i64), 0, false, false⟩), (4, ⟨.bool, 0, false, false⟩), (9, ⟨.str, 0, false, false⟩), (20, ⟨.opq, 0, false, false⟩), (22, ⟨(.slice T_api_Field), 48, false, false⟩), (23, ⟨(.slice T_api_Atom), 16, false, false⟩), (25, ⟨T_api_Shape, 0, false, false⟩), (29, ⟨T_api_Field, 0, false, false⟩), (38, ⟨.opq, 0, false, false⟩), (44, ⟨T_api_Atom, 0, true, false⟩), (47, ⟨(.slice T_api_Bind), 40, false, false⟩), (48, ⟨(.slice T_api_Loc), 64, false, false⟩), (50, ⟨T_api_State, 0, false, false⟩), (53, ⟨(.slice .str), 16, false, false⟩), (64, ⟨T_api_Bind, 0, false, false⟩), (66, ⟨T_api_Loc, 0, false, false⟩), (75, ⟨.opq, 0, false, false⟩), (77, ⟨.opq, 0, false, false⟩), (87, ⟨.opq, 0, false, false⟩), (92, ⟨.opq, 0, false, false⟩), (96, ⟨.opq, 0, false, false⟩), (99, ⟨(.slice (.slice T_api_Atom)), 24, false, false⟩), (100, ⟨(.int .u64), 0, false, false⟩), (121, ⟨(.slice (.int .i64)), 8, false, false⟩)]
def sortF (l : List (Int × Int)) : Option (List (Int × Int)) := SortC.sortF l
theorem mixedOk : Try.prog.follows .mixedOrders = true := by kernel_rfl
theorem tabOk : tysB Try.prog T = true := by kernel_rfl
abbrev GG : World → Prop := fun _ => True
theorem f56_at : Try.prog.funcs[56]? = some Try.f56 := by kernel_rfl
theorem f56_ok : (Try.f56.name != "runtime.NumGoroutine" && Try.f56.body.isSome) = true := by kernel_rfl
theorem f16_at : Try.prog.funcs[16]? = some Try.f16 := by kernel_rfl
theorem f16_ok : (Try.f16.name != "runtime.NumGoroutine" && Try.f16.body.isSome) = true := by kernel_rfl
theorem f107_at : Try.prog.funcs[107]? = some Try.f107 := by kernel_rfl
theorem f107_ok : (Try.f107.name != "runtime.NumGoroutine" && Try.f107.body.isSome) = true := by kernel_rfl
theorem f123_at : Try.prog.funcs[123]? = some Try.f123 := by kernel_rfl
theorem f123_ok : (Try.f123.name != "runtime.NumGoroutine" && Try.f123.body.isSome) = true := by kernel_rfl
theorem f108_at : Try.prog.funcs[108]? = some Try.f108 := by kernel_rfl
theorem f108_ok : (Try.f108.name != "runtime.NumGoroutine" && Try.f108.body.isSome) = true := by kernel_rfl
theorem f93_at : Try.prog.funcs[93]? = some Try.f93 := by kernel_rfl
theorem f93_ok : (Try.f93.name != "runtime.NumGoroutine" && Try.f93.body.isSome) = true := by kernel_rfl
theorem f91_at : Try.prog.funcs[91]? = some Try.f91 := by kernel_rfl
theorem f91_ok : (Try.f91.name != "runtime.NumGoroutine" && Try.f91.body.isSome) = true := by kernel_rfl
theorem f90_at : Try.prog.funcs[90]? = some Try.f90 := by kernel_rfl
theorem f90_ok : (Try.f90.name != "runtime.NumGoroutine" && Try.f90.body.isSome) = true := by kernel_rfl
theorem f14_at : Try.prog.funcs[14]? = some Try.f14 := by kernel_rfl
theorem f14_ok : (Try.f14.name != "runtime.NumGoroutine" && Try.f14.body.isSome) = true := by kernel_rfl
theorem f67_at : Try.prog.funcs[67]? = some Try.f67 := by kernel_rfl
theorem f67_ok : (Try.f67.name != "runtime.NumGoroutine" && Try.f67.body.isSome) = true := by kernel_rfl
theorem f83_at : Try.prog.funcs[83]? = some Try.f83 := by kernel_rfl
theorem f83_ok : (Try.f83.name != "runtime.NumGoroutine" && Try.f83.body.isSome) = true := by kernel_rfl
theorem f57_at : Try.prog.funcs[57]? = some Try.f57 := by kernel_rfl
theorem f57_ok : (Try.f57.name != "runtime.NumGoroutine" && Try.f57.body.isSome) = true := by kernel_rfl
theorem f18_at : Try.prog.funcs[18]? = some Try.f18 := by kernel_rfl
theorem f18_ok : (Try.f18.name != "runtime.NumGoroutine" && Try.f18.body.isSome) = true := by kernel_rfl
theorem f20_at : Try.prog.funcs[20]? = some Try.f20 := by kernel_rfl
theorem f20_ok : (Try.f20.name != "runtime.NumGoroutine" && Try.f20.body.isSome) = true := by kernel_rfl
theorem f84_at : Try.prog.funcs[84]? = some Try.f84 := by kernel_rfl
theorem f84_ok : (Try.f84.name != "runtime.NumGoroutine" && Try.f84.body.isSome) = true := by kernel_rfl
theorem f59_at : Try.prog.funcs[59]? = some Try.f59 := by kernel_rfl
theorem f59_ok : (Try.f59.name != "runtime.NumGoroutine" && Try.f59.body.isSome) = true := by kernel_rfl
theorem f60_at : Try.prog.funcs[60]? = some Try.f60 := by kernel_rfl
theorem f60_ok : (Try.f60.name != "runtime.NumGoroutine" && Try.f60.body.isSome) = true := by kernel_rfl
theorem f22_at : Try.prog.funcs[22]? = some Try.f22 := by kernel_rfl
theorem f22_ok : (Try.f22.name != "runtime.NumGoroutine" && Try.f22.body.isSome) = true := by kernel_rfl
theorem f110_at : Try.prog.funcs[110]? = some Try.f110 := by kernel_rfl
theorem f110_ok : (Try.f110.name != "runtime.NumGoroutine" && Try.f110.body.isSome) = true := by kernel_rfl
theorem f98_at : Try.prog.funcs[98]? = some Try.f98 := by kernel_rfl
theorem f98_ok : (Try.f98.name != "runtime.NumGoroutine" && Try.f98.body.isSome) = true := by kernel_rfl
theorem f74_at : Try.prog.funcs[74]? = some Try.f74 := by kernel_rfl
theorem f74_ok : (Try.f74.name != "runtime.NumGoroutine" && Try.f74.body.isSome) = true := by kernel_rfl
theorem f63_at : Try.prog.funcs[63]? = some Try.f63 := by kernel_rfl
theorem f63_ok : (Try.f63.name != "runtime.NumGoroutine" && Try.f63.body.isSome) = true := by kernel_rfl
theorem f24_at : Try.prog.funcs[24]? = some Try.f24 := by kernel_rfl
theorem f24_ok : (Try.f24.name != "runtime.NumGoroutine" && Try.f24.body.isSome) = true := by kernel_rfl
theorem f27_at : Try.prog.funcs[27]? = some Try.f27 := by kernel_rfl
theorem f27_ok : (Try.f27.name != "runtime.NumGoroutine" && Try.f27.body.isSome) = true := by kernel_rfl
theorem f28_at : Try.prog.funcs[28]? = some Try.f28 := by kernel_rfl
theorem f28_ok : (Try.f28.name != "runtime.NumGoroutine" && Try.f28.body.isSome) = true := by kernel_rfl
theorem f30_at : Try.prog.funcs[30]? = some Try.f30 := by kernel_rfl
theorem f30_ok : (Try.f30.name != "runtime.NumGoroutine" && Try.f30.body.isSome) = true := by kernel_rfl
theorem f53_at : Try.prog.funcs[53]? = some Try.f53 := by kernel_rfl
theorem f53_ok : (Try.f53.name != "runtime.NumGoroutine" && Try.f53.body.isSome) = true := by kernel_rfl
theorem f52_at : Try.prog.funcs[52]? = some Try.f52 := by kernel_rfl
theorem f52_ok : (Try.f52.name != "runtime.NumGoroutine" && Try.f52.body.isSome) = true := by kernel_rfl
theorem f15_at : Try.prog.funcs[15]? = some Try.f15 := by kernel_rfl
theorem f15_ok : (Try.f15.name != "runtime.NumGoroutine" && Try.f15.body.isSome) = true := by kernel_rfl
theorem f17_at : Try.prog.funcs[17]? = some Try.f17 := by kernel_rfl
theorem f17_ok : (Try.f17.name != "runtime.NumGoroutine" && Try.f17.body.isSome) = true := by kernel_rfl
theorem f50_at : Try.prog.funcs[50]? = some Try.f50 := by kernel_rfl
theorem f50_ok : (Try.f50.name != "runtime.NumGoroutine" && Try.f50.body.isSome) = true := by kernel_rfl
theorem f82_at : Try.prog.funcs[82]? = some Try.f82 := by kernel_rfl
theorem f82_ok : (Try.f82.name != "runtime.NumGoroutine" && Try.f82.body.isSome) = true := by kernel_rfl
theorem f95_at : Try.prog.funcs[95]? = some Try.f95 := by kernel_rfl
theorem f95_ok : (Try.f95.name != "runtime.NumGoroutine" && Try.f95.body.isSome) = true := by kernel_rfl
theorem f68_at : Try.prog.funcs[68]? = some Try.f68 := by kernel_rfl
theorem f68_ok : (Try.f68.name != "runtime.NumGoroutine" && Try.f68.body.isSome) = true := by kernel_rfl
theorem f66_at : Try.prog.funcs[66]? = some Try.f66 := by kernel_rfl
theorem f66_ok : (Try.f66.name != "runtime.NumGoroutine" && Try.f66.body.isSome) = true := by kernel_rfl
theorem f26_at : Try.prog.funcs[26]? = some Try.f26 := by kernel_rfl
theorem f26_ok : (Try.f26.name != "runtime.NumGoroutine" && Try.f26.body.isSome) = true := by kernel_rfl
theorem f19_at : Try.prog.funcs[19]? = some Try.f19 := by kernel_rfl
theorem f19_ok : (Try.f19.name != "runtime.NumGoroutine" && Try.f19.body.isSome) = true := by kernel_rfl
theorem f21_at : Try.prog.funcs[21]? = some Try.f21 := by kernel_rfl
theorem f21_ok : (Try.f21.name != "runtime.NumGoroutine" && Try.f21.body.isSome) = true := by kernel_rfl
theorem f31_at : Try.prog.funcs[31]? = some Try.f31 := by kernel_rfl
theorem f31_ok : (Try.f31.name != "runtime.NumGoroutine" && Try.f31.body.isSome) = true := by kernel_rfl
theorem f62_at : Try.prog.funcs[62]? = some Try.f62 := by kernel_rfl
theorem f62_ok : (Try.f62.name != "runtime.NumGoroutine" && Try.f62.body.isSome) = true := by kernel_rfl
theorem f23_at : Try.prog.funcs[23]? = some Try.f23 := by kernel_rfl
theorem f23_ok : (Try.f23.name != "runtime.NumGoroutine" && Try.f23.body.isSome) = true := by kernel_rfl
theorem f47_at : Try.prog.funcs[47]? = some Try.f47 := by kernel_rfl
theorem f47_ok : (Try.f47.name != "runtime.NumGoroutine" && Try.f47.body.isSome) = true := by kernel_rfl
theorem f25_at : Try.prog.funcs[25]? = some Try.f25 := by kernel_rfl
theorem f25_ok : (Try.f25.name != "runtime.NumGoroutine" && Try.f25.body.isSome) = true := by kernel_rfl
theorem f3_at : Try.prog.funcs[3]? = some Try.f3 := by kernel_rfl
theorem f3_ok : (Try.f3.name != "runtime.NumGoroutine" && Try.f3.body.isSome) = true := by kernel_rfl
theorem f4_at : Try.prog.funcs[4]? = some Try.f4 := by kernel_rfl
theorem f4_ok : (Try.f4.name != "runtime.NumGoroutine" && Try.f4.body.isSome) = true := by kernel_rfl
theorem f29_at : Try.prog.funcs[29]? = some Try.f29 := by kernel_rfl
theorem f29_ok : (Try.f29.name != "runtime.NumGoroutine" && Try.f29.body.isSome) = true := by kernel_rfl
theorem f5_at : Try.prog.funcs[5]? = some Try.f5 := by kernel_rfl
theorem f5_ok : (Try.f5.name != "runtime.NumGoroutine" && Try.f5.body.isSome) = true := by kernel_rfl
theorem f6_at : Try.prog.funcs[6]? = some Try.f6 := by kernel_rfl
theorem f6_ok : (Try.f6.name != "runtime.NumGoroutine" && Try.f6.body.isSome) = true := by kernel_rfl
theorem f32_at : Try.prog.funcs[32]? = some Try.f32 := by kernel_rfl
theorem f32_ok : (Try.f32.name != "runtime.NumGoroutine" && Try.f32.body.isSome) = true := by kernel_rfl
theorem f33_at : Try.prog.funcs[33]? = some Try.f33 := by kernel_rfl
theorem f33_ok : (Try.f33.name != "runtime.NumGoroutine" && Try.f33.body.isSome) = true := by kernel_rfl
theorem f69_at : Try.prog.funcs[69]? = some Try.f69 := by kernel_rfl
theorem f69_ok : (Try.f69.name != "runtime.NumGoroutine" && Try.f69.body.isSome) = true := by kernel_rfl
theorem f34_at : Try.prog.funcs[34]? = some Try.f34 := by kernel_rfl
theorem f34_ok : (Try.f34.name != "runtime.NumGoroutine" && Try.f34.body.isSome) = true := by kernel_rfl
theorem f70_at : Try.prog.funcs[70]? = some Try.f70 := by kernel_rfl
theorem f70_ok : (Try.f70.name != "runtime.NumGoroutine" && Try.f70.body.isSome) = true := by kernel_rfl
theorem f35_at : Try.prog.funcs[35]? = some Try.f35 := by kernel_rfl
theorem f35_ok : (Try.f35.name != "runtime.NumGoroutine" && Try.f35.body.isSome) = true := by kernel_rfl
theorem f7_at : Try.prog.funcs[7]? = some Try.f7 := by kernel_rfl
theorem f7_ok : (Try.f7.name != "runtime.NumGoroutine" && Try.f7.body.isSome) = true := by kernel_rfl
theorem f8_at : Try.prog.funcs[8]? = some Try.f8 := by kernel_rfl
theorem f8_ok : (Try.f8.name != "runtime.NumGoroutine" && Try.f8.body.isSome) = true := by kernel_rfl
theorem f54_at : Try.prog.funcs[54]? = some Try.f54 := by kernel_rfl
theorem f54_ok : (Try.f54.name != "runtime.NumGoroutine" && Try.f54.body.isSome) = true := by kernel_rfl
theorem f55_at : Try.prog.funcs[55]? = some Try.f55 := by kernel_rfl
theorem f55_ok : (Try.f55.name != "runtime.NumGoroutine" && Try.f55.body.isSome) = true := by kernel_rfl
theorem f64_at : Try.prog.funcs[64]? = some Try.f64 := by kernel_rfl
theorem f64_ok : (Try.f64.name != "runtime.NumGoroutine" && Try.f64.body.isSome) = true := by kernel_rfl
theorem f65_at : Try.prog.funcs[65]? = some Try.f65 := by kernel_rfl
theorem f65_ok : (Try.f65.name != "runtime.NumGoroutine" && Try.f65.body.isSome) = true := by kernel_rfl
theorem f85_at : Try.prog.funcs[85]? = some Try.f85 := by kernel_rfl
theorem f85_ok : (Try.f85.name != "runtime.NumGoroutine" && Try.f85.body.isSome) = true := by kernel_rfl
theorem f86_at : Try.prog.funcs[86]? = some Try.f86 := by kernel_rfl
theorem f86_ok : (Try.f86.name != "runtime.NumGoroutine" && Try.f86.body.isSome) = true := by kernel_rfl
theorem f100_at : Try.prog.funcs[100]? = some Try.f100 := by kernel_rfl
theorem f100_ok : (Try.f100.name != "runtime.NumGoroutine" && Try.f100.body.isSome) = true := by kernel_rfl
theorem f89_at : Try.prog.funcs[89]? = some Try.f89 := by kernel_rfl
theorem f89_ok : (Try.f89.name != "runtime.NumGoroutine" && Try.f89.body.isSome) = true := by kernel_rfl
theorem f104_at : Try.prog.funcs[104]? = some Try.f104 := by kernel_rfl
theorem f104_ok : (Try.f104.name != "runtime.NumGoroutine" && Try.f104.body.isSome) = true := by kernel_rfl
theorem f94_at : Try.prog.funcs[94]? = some Try.f94 := by kernel_rfl
theorem f94_ok : (Try.f94.name != "runtime.NumGoroutine" && Try.f94.body.isSome) = true := by kernel_rfl
theorem f58_at : Try.prog.funcs[58]? = some Try.f58 := by kernel_rfl
theorem f58_ok : (Try.f58.name != "runtime.NumGoroutine" && Try.f58.body.isSome) = true := by kernel_rfl
theorem f61_at : Try.prog.funcs[61]? = some Try.f61 := by kernel_rfl
theorem f61_ok : (Try.f61.name != "runtime.NumGoroutine" && Try.f61.body.isSome) = true := by kernel_rfl
theorem f75_at : Try.prog.funcs[75]? = some Try.f75 := by kernel_rfl
theorem f75_ok : (Try.f75.name != "runtime.NumGoroutine" && Try.f75.body.isSome) = true := by kernel_rfl
theorem f76_at : Try.prog.funcs[76]? = some Try.f76 := by kernel_rfl
theorem f76_ok : (Try.f76.name != "runtime.NumGoroutine" && Try.f76.body.isSome) = true := by kernel_rfl
theorem f77_at : Try.prog.funcs[77]? = some Try.f77 := by kernel_rfl
theorem f77_ok : (Try.f77.name != "runtime.NumGoroutine" && Try.f77.body.isSome) = true := by kernel_rfl
theorem f78_at : Try.prog.funcs[78]? = some Try.f78 := by kernel_rfl
theorem f78_ok : (Try.f78.name != "runtime.NumGoroutine" && Try.f78.body.isSome) = true := by kernel_rfl
theorem f79_at : Try.prog.funcs[79]? = some Try.f79 := by kernel_rfl
theorem f79_ok : (Try.f79.name != "runtime.NumGoroutine" && Try.f79.body.isSome) = true := by kernel_rfl
theorem f99_at : Try.prog.funcs[99]? = some Try.f99 := by kernel_rfl
theorem f99_ok : (Try.f99.name != "runtime.NumGoroutine" && Try.f99.body.isSome) = true := by kernel_rfl
theorem f87_at : Try.prog.funcs[87]? = some Try.f87 := by kernel_rfl
theorem f87_ok : (Try.f87.name != "runtime.NumGoroutine" && Try.f87.body.isSome) = true := by kernel_rfl
noncomputable def codes : List (Nat × Func × List (Nat × Hint)) := [(16, Try.f16, []), (54, Try.f54, [(2, ⟨[.var 8 (.d (.int .i64))], [], (some (0, []))⟩)]), (55, Try.f55, []), (56, Try.f56, []), (64, Try.f64, []), (65, Try.f65, []), (85, Try.f85, [(3, ⟨[.var 9 (.d (.int .i64)), .var 10 (.d (.int .i64))], [], (some (0, [.var 9 (.d (.int .i64))]))⟩)]), (86, Try.f86, []), (100, Try.f100, []), (89, Try.f89, [(5, ⟨[.var 5 (.d (.int .i64)), .var 6 (.d (.int .i64)), .cel 0 [] (.st (.pair (.int .i64) (.int .i64)))], [], (some (0, [.var 5 (.d (.int .i64)), .cel 0 [] (.st (.pair (.int .i64) (.int .i64)))]))⟩)]), (104, Try.f104, [(2, ⟨[.var 8 (.d (.int .i64))], [], (some (0, []))⟩)]), (94, Try.f94, [(4, ⟨[.var 3 (.d (.int .i64)), .cel 0 [] (.st (.pair (.int .i64) (.int .i64)))], [], (some (0, [.cel 0 [] (.st (.pair (.int .i64) (.int .i64)))]))⟩), (9, ⟨[.var 3 (.d (.int .i64)), .var 5 (.d (.int .i64)), .cel 0 [] (.st (.pair (.int .i64) (.int .i64)))], [], (some (2, [.var 3 (.d (.int .i64)), .cel 0 [] (.st (.pair (.int .i64) (.int .i64)))]))⟩)]), (58, Try.f58, [(3, ⟨[.var 13 (.d (.int .i64)), .box 3 [] (.s (.p (.o (.st (.pair .str (.pair .bool (.slice (.st (.pair (.int .i64) (.int .i64)))))))) (.d (.slice (.st (.pair (.int .i64) (.int .i64)))))))], [], (some (0, [.box 3 [] (.s (.p (.o (.st (.pair .str (.pair .bool (.slice (.st (.pair (.int .i64) (.int .i64)))))))) (.d (.slice (.st (.pair (.int .i64) (.int .i64)))))))]))⟩)]), (61, Try.f61, []), (75, Try.f75, [(3, ⟨[.var 15 (.d (.int .i64)), .cel 13 [] (.st (.pair (.st (.pair (.int .i64) (.int .i64))) (.st (.pair (.slice (.st (.pair .str (.pair .bool (.slice (.st (.pair (.int .i64) (.int .i64)))))))) (.slice (.st (.pair (.int .i64) (.int .i64))))))))], [], (some (0, [.cel 13 [] (.st (.pair (.st (.pair (.int .i64) (.int .i64))) (.st (.pair (.slice (.st (.pair .str (.pair .bool (.slice (.st (.pair (.int .i64) (.int .i64)))))))) (.slice (.st (.pair (.int .i64) (.int .i64))))))))]))⟩)]), (76, Try.f76, []), (77, Try.f77, []), (78, Try.f78, []), (79, Try.f79, [(2, ⟨[.var 8 (.d (.int .i64)), .box 2 [] (.d (.st (.pair (.slice (.st (.pair .str (.pair .bool (.slice (.st (.pair (.int .i64) (.int .i64)))))))) (.slice (.st (.pair (.int .i64) (.int .i64)))))))], [], (some (0, [.box 2 [] (.d (.st (.pair (.slice (.st (.pair .str (.pair .bool (.slice (.st (.pair (.int .i64) (.int .i64)))))))) (.slice (.st (.pair (.int .i64) (.int .i64)))))))]))⟩)]), (99, Try.f99, [(3, ⟨[.var 14 (.d (.int .i64)), .box 3 [] (.s (.p (.d .bool) (.p (.o (.st (.pair .str (.slice (.st (.pair (.int .i64) (.int .i64))))))) (.o (.st (.pair (.st (.pair (.int .i64) (.int .i64))) (.st (.pair (.slice (.st (.pair .str (.pair .bool (.slice (.st (.pair (.int .i64) (.int .i64)))))))) (.slice (.st (.pair (.int .i64) (.int .i64))))))))))))], [], (some (0, [.box 3 [] (.s (.p (.d .bool) (.p (.o (.st (.pair .str (.slice (.st (.pair (.int .i64) (.int .i64))))))) (.o (.st (.pair (.st (.pair (.int .i64) (.int .i64))) (.st (.pair (.slice (.st (.pair .str (.pair .bool (.slice (.st (.pair (.int .i64) (.int .i64)))))))) (.slice (.st (.pair (.int .i64) (.int .i64))))))))))))]))⟩), (8, ⟨[.var 33 (.d (.int .i64)), .box 3 [] (.s (.p (.d .bool) (.p (.o (.st (.pair .str (.slice (.st (.pair (.int .i64) (.int .i64))))))) (.o (.st (.pair (.st (.pair (.int .i64) (.int .i64))) (.st (.pair (.slice (.st (.pair .str (.pair .bool (.slice (.st (.pair (.int .i64) (.int .i64)))))))) (.slice (.st (.pair (.int .i64) (.int .i64))))))))))))], [], (some (2, [.box 3 [] (.s (.p (.d .bool) (.p (.o (.st (.pair .str (.slice (.st (.pair (.int .i64) (.int .i64))))))) (.o (.st (.pair (.st (.pair (.int .i64) (.int .i64))) (.st (.pair (.slice (.st (.pair .str (.pair .bool (.slice (.st (.pair (.int .i64) (.int .i64)))))))) (.slice (.st (.pair (.int .i64) (.int .i64))))))))))))]))⟩)])]
theorem codesOk : CodesOk Try.prog codes := .cons f16_at f16_ok <| .cons f54_at f54_ok <| .cons f55_at f55_ok <| .cons f56_at f56_ok <| .cons f64_at f64_ok <| .cons f65_at f65_ok <| .cons f85_at f85_ok <| .cons f86_at f86_ok <| .cons f100_at f100_ok <| .cons f89_at f89_ok <| .cons f104_at f104_ok <| .cons f94_at f94_ok <| .cons f58_at f58_ok <| .cons f61_at f61_ok <| .cons f75_at f75_ok <| .cons f76_at f76_ok <| .cons f77_at f77_ok <| .cons f78_at f78_ok <| .cons f79_at f79_ok <| .cons f99_at f99_ok <| .nil
def strings_Compare (_k : Nat) (x : ByteArray × ByteArray) : Option Int := some (Lib.compareBytes x.1.data.toList x.2.data.toList)
section
open Go.RowKit
theorem cmpIn (a b : ByteArray) (w : World) : Calls Try.prog 101 #[.string a, .string b] w fun e w' => e = .returned (.int .i64 (Lib.compareBytes a.data.toList b.data.toList)) ∧ w' = w := by
  go_enter Try.func101, Try.ntmps101
  go_wp2
  rw [run_callFunc_extern Try.func111 (by kernel_rfl) (by kernel_rfl) (by kernel_rfl) (e := Extern.BytealgCompare.compare) (by kernel_rfl), Lib.run_compareString]
  simp only [Result.andThen]
  rw [Oper.upon_value]
  go_wp2
  go_ret
  exact ⟨rfl, rfl⟩
theorem cmpOut (a b : ByteArray) (w : World) : Calls Try.prog 87 #[.string a, .string b] w fun e w' => e = .returned (.int .i64 (Lib.compareBytes a.data.toList b.data.toList)) ∧ w' = w := by
  go_enter Try.func87, Try.ntmps87
  go_wp2_with (go_at_call 101; refine (cmpIn _ _ _).mono ?_; rintro e w' ⟨rfl, rfl⟩)
  go_ret
  exact ⟨rfl, rfl⟩
end
theorem strings_Compare_spec (k : Nat) : SpecOk Try.prog GG 87 ⟨(.pair .str .str), (.int .i64), strings_Compare k⟩ := by
  intro Z w vals x r _ _ hx ha
  have hx : Lib.compareBytes x.1.data.toList x.2.data.toList = r := by simpa [strings_Compare] using hx
  simp only [argAV, RepT] at ha
  obtain ⟨v1, l1, e1, h1, h2⟩ := ha
  obtain ⟨v2, rfl, h2⟩ := h2
  have h1 := repV_str h1
  have h2 : v2 = .string x.2 := repV_str (c := cz Z w) (by simpa only [RepV] using h2)
  subst h1; subst h2
  obtain rfl : vals = #[.string x.1, .string x.2] := Array.toList_inj.1 (by simpa using e1)
  refine (cmpOut x.1 x.2 w).mono fun e w' ⟨he, hw⟩ => ⟨_, he, ?_, ?_⟩
  · rw [hw]; exact Go.RowKit.Below.refl _ _
  · rw [hx]; simp [resAV, RepV, RepD, isSt]

theorem sort_ok : InplOk Try.prog GG 92 ⟨T_api_Atom, 93, sortF⟩ := SortC.sort_ok GG
theorem f92_at : Try.prog.funcs[92]? = some Try.f92 := by kernel_rfl
theorem f92_ok : (Try.f92.name != "runtime.NumGoroutine" && Try.f92.body.isSome) = true := by kernel_rfl
theorem inplOk : InplsOk Try.prog GG [(92, ⟨T_api_Atom, 93, sortF⟩)] := .cons sort_ok f92_at f92_ok .nil
theorem f88_at : Try.prog.funcs[88]? = some Try.f88 := by kernel_rfl
theorem f88_ok : (Try.f88.name != "runtime.NumGoroutine" && Try.f88.body.isSome) = true := by kernel_rfl
theorem insOk : InssOk Try.prog GG [(88, T_api_Field, 48)] :=   .cons (InsC.ins_ok rfl) ⟨29, okB_spec (by kernel_rfl)⟩ f88_at f88_ok .nil

noncomputable def slices_Clone_api_Atom_api_Atom : (k : Nat) → (Ty.D (.slice T_api_Atom)) → Option (Ty.D (.slice T_api_Atom)) := fun (k : Nat) (x : T_api_Atom.slice.D) => P.cond (P.ilt ((0 : Int)) (P.len x)) (P.cond (P.not true) (some []) (P.cond (P.room (P.add (P.len (P.nil (Int × Int))) (P.len x)) 16) (some (P.app [] x)) none)) (P.amb (some []) (P.cond (P.room (P.add (P.len (P.nil (Int × Int))) (P.len x)) 16) (some (P.app [] x)) none))
theorem slices_Clone_api_Atom_api_Atom_eq (k : Nat) (x : (Ty.D (.slice T_api_Atom))) : evFn { T := T, specs := [], codes := codes, k := k, inpl := [(92, ⟨T_api_Atom, 93, sortF⟩)], ins := [(88, T_api_Field, 48)], calm := [58] } 6 Try.f56 [] (.slice T_api_Atom) (.slice T_api_Atom) x = slices_Clone_api_Atom_api_Atom k x := by kernel_rfl
theorem slices_Clone_api_Atom_api_Atom_spec (k : Nat) : SpecOk Try.prog GG 56 ⟨(.slice T_api_Atom), (.slice T_api_Atom), slices_Clone_api_Atom_api_Atom k⟩ :=
  fn_spec (envOk (E := { T := T, specs := [], codes := codes, k := k, inpl := [(92, ⟨T_api_Atom, 93, sortF⟩)], ins := [(88, T_api_Field, 48)], calm := [58] }) tabOk (.nil) codesOk mixedOk (fun _ _ _ _ => trivial) (hi := inplOk) (hj := insOk)) f56_at (fun x => (slices_Clone_api_Atom_api_Atom_eq k x).symm)
noncomputable def object_Get : (k : Nat) → (Ty.D (.pair T_api_Shape .str)) → Option (Ty.D (.pair T_api_Field .bool)) := fun (k : Nat) (x : (T_api_Shape.pair Ty.str).D) => P.bind (P.iter k (fun (y : Int) => P.cond (P.ilt y (P.len x.fst.fst)) (P.cond (P.inb y (P.len x.fst.fst)) (P.cond (P.seq (P.get x.fst.fst y ((ByteArray.mk #[]), false, [])).fst x.snd) (P.map (fun (r : (ByteArray × Bool × List (Int × Int)) × Bool) => Sum.inr (Sum.inr r)) (P.cond (P.ilt y ((0 : Int))) (some (((ByteArray.mk #[]), false, []), false)) (P.cond (P.inb y (P.len x.fst.fst)) (P.bind (slices_Clone_api_Atom_api_Atom k (P.get x.fst.fst y ((ByteArray.mk #[]), false, [])).snd.snd) fun (r : List (Int × Int)) => some (((P.get x.fst.fst y ((ByteArray.mk #[]), false, [])).fst, (P.get x.fst.fst y ((ByteArray.mk #[]), false, [])).snd.fst, r), true)) none))) (some (Sum.inl (P.wrap IntKind.i64 (P.add y ((1 : Int))))))) none) (some (Sum.inr (Sum.inl PUnit.unit)))) ((0 : Int))) (P.either (fun (z : PUnit) => P.cond (P.ilt ((-1 : Int)) ((0 : Int))) (some (((ByteArray.mk #[]), false, []), false)) (P.cond (P.inb ((-1 : Int)) (P.len x.fst.fst)) (P.bind (slices_Clone_api_Atom_api_Atom k (P.get x.fst.fst ((-1 : Int)) ((ByteArray.mk #[]), false, [])).snd.snd) fun (r : List (Int × Int)) => some (((P.get x.fst.fst ((-1 : Int)) ((ByteArray.mk #[]), false, [])).fst, (P.get x.fst.fst ((-1 : Int)) ((ByteArray.mk #[]), false, [])).snd.fst, r), true)) none)) fun (r : (ByteArray × Bool × List (Int × Int)) × Bool) => some r)
theorem object_Get_eq (k : Nat) (x : (Ty.D (.pair T_api_Shape .str))) : evFn { T := T, specs := [(56, ⟨(.slice T_api_Atom), (.slice T_api_Atom), slices_Clone_api_Atom_api_Atom k⟩)], codes := codes, k := k, inpl := [(92, ⟨T_api_Atom, 93, sortF⟩)], ins := [(88, T_api_Field, 48)], calm := [58] } 6 Try.f16 [] (.pair T_api_Shape .str) (.pair T_api_Field .bool) x = object_Get k x := by kernel_rfl
theorem object_Get_spec (k : Nat) : SpecOk Try.prog GG 16 ⟨(.pair T_api_Shape .str), (.pair T_api_Field .bool), object_Get k⟩ :=
  fn_spec (envOk (E := { T := T, specs := [(56, ⟨(.slice T_api_Atom), (.slice T_api_Atom), slices_Clone_api_Atom_api_Atom k⟩)], codes := codes, k := k, inpl := [(92, ⟨T_api_Atom, 93, sortF⟩)], ins := [(88, T_api_Field, 48)], calm := [58] }) tabOk (.cons (slices_Clone_api_Atom_api_Atom_spec k) f56_at f56_ok <| .nil) codesOk mixedOk (fun _ _ _ _ => trivial) (hi := inplOk) (hj := insOk)) f16_at (fun x => (object_Get_eq k x).symm)
noncomputable def cmp_Or_int : (k : Nat) → (Ty.D (.slice (.int .i64))) → Option (Ty.D (.int .i64)) := fun (k : Nat) (x : (Ty.int IntKind.i64).slice.D) => P.bind (P.iter k (fun (y : Int) => P.cond (P.ilt y (P.len x)) (P.cond (P.inb y (P.len x)) (P.cond (P.not (P.ieq (P.get x y ((0 : Int))) ((0 : Int)))) (some (Sum.inr (Sum.inr (P.get x y ((0 : Int)))))) (some (Sum.inl (P.wrap IntKind.i64 (P.add y ((1 : Int))))))) none) (some (Sum.inr (Sum.inl PUnit.unit)))) ((0 : Int))) (P.either (fun (z : PUnit) => some ((0 : Int))) fun (r : Int) => some r)
theorem cmp_Or_int_eq (k : Nat) (x : (Ty.D (.slice (.int .i64)))) : evFn { T := T, specs := [], codes := codes, k := k, inpl := [(92, ⟨T_api_Atom, 93, sortF⟩)], ins := [(88, T_api_Field, 48)], calm := [58] } 6 Try.f107 [(3, ⟨[.var 8 (.d (.int .i64))], [], (some (0, []))⟩)] (.slice (.int .i64)) (.int .i64) x = cmp_Or_int k x := by kernel_rfl
theorem cmp_Or_int_spec (k : Nat) : SpecOk Try.prog GG 107 ⟨(.slice (.int .i64)), (.int .i64), cmp_Or_int k⟩ :=
  fn_spec (envOk (E := { T := T, specs := [], codes := codes, k := k, inpl := [(92, ⟨T_api_Atom, 93, sortF⟩)], ins := [(88, T_api_Field, 48)], calm := [58] }) tabOk (.nil) codesOk mixedOk (fun _ _ _ _ => trivial) (hi := inplOk) (hj := insOk)) f107_at (fun x => (cmp_Or_int_eq k x).symm)
noncomputable def cmp_isNaN_int : (k : Nat) → (Ty.D (.int .i64)) → Option (Ty.D .bool) := fun (k : Nat) (x : (Ty.int IntKind.i64).D) => some (P.not (P.ieq x x))
theorem cmp_isNaN_int_eq (k : Nat) (x : (Ty.D (.int .i64))) : evFn { T := T, specs := [], codes := codes, k := k, inpl := [(92, ⟨T_api_Atom, 93, sortF⟩)], ins := [(88, T_api_Field, 48)], calm := [58] } 6 Try.f123 [] (.int .i64) .bool x = cmp_isNaN_int k x := by kernel_rfl
theorem cmp_isNaN_int_spec (k : Nat) : SpecOk Try.prog GG 123 ⟨(.int .i64), .bool, cmp_isNaN_int k⟩ :=
  fn_spec (envOk (E := { T := T, specs := [], codes := codes, k := k, inpl := [(92, ⟨T_api_Atom, 93, sortF⟩)], ins := [(88, T_api_Field, 48)], calm := [58] }) tabOk (.nil) codesOk mixedOk (fun _ _ _ _ => trivial) (hi := inplOk) (hj := insOk)) f123_at (fun x => (cmp_isNaN_int_eq k x).symm)
noncomputable def cmp_Compare_int : (k : Nat) → (Ty.D (.pair (.int .i64) (.int .i64))) → Option (Ty.D (.int .i64)) := fun (k : Nat) (x : ((Ty.int IntKind.i64).pair (Ty.int IntKind.i64)).D) => P.bind (cmp_isNaN_int k x.fst) fun (r : Bool) => P.bind (cmp_isNaN_int k x.snd) fun (r_1 : Bool) => P.cond r (P.cond r_1 (some ((0 : Int))) (some ((-1 : Int)))) (P.cond r_1 (some ((1 : Int))) (P.cond (P.ilt x.fst x.snd) (some ((-1 : Int))) (P.cond (P.ilt x.snd x.fst) (some ((1 : Int))) (some ((0 : Int))))))
theorem cmp_Compare_int_eq (k : Nat) (x : (Ty.D (.pair (.int .i64) (.int .i64)))) : evFn { T := T, specs := [(123, ⟨(.int .i64), .bool, cmp_isNaN_int k⟩)], codes := codes, k := k, inpl := [(92, ⟨T_api_Atom, 93, sortF⟩)], ins := [(88, T_api_Field, 48)], calm := [58] } 6 Try.f108 [] (.pair (.int .i64) (.int .i64)) (.int .i64) x = cmp_Compare_int k x := by kernel_rfl
theorem cmp_Compare_int_spec (k : Nat) : SpecOk Try.prog GG 108 ⟨(.pair (.int .i64) (.int .i64)), (.int .i64), cmp_Compare_int k⟩ :=
  fn_spec (envOk (E := { T := T, specs := [(123, ⟨(.int .i64), .bool, cmp_isNaN_int k⟩)], codes := codes, k := k, inpl := [(92, ⟨T_api_Atom, 93, sortF⟩)], ins := [(88, T_api_Field, 48)], calm := [58] }) tabOk (.cons (cmp_isNaN_int_spec k) f123_at f123_ok <| .nil) codesOk mixedOk (fun _ _ _ _ => trivial) (hi := inplOk) (hj := insOk)) f108_at (fun x => (cmp_Compare_int_eq k x).symm)
noncomputable def atoms_Compare : (k : Nat) → (Ty.D (.pair T_api_Atom T_api_Atom)) → Option (Ty.D (.int .i64)) := fun (k : Nat) (x : (T_api_Atom.pair T_api_Atom).D) => P.bind (cmp_Compare_int k (x.fst.fst, x.snd.fst)) fun (r : Int) => P.bind (cmp_Compare_int k (x.fst.snd, x.snd.snd)) fun (r_1 : Int) => P.bind (cmp_Or_int k [r, r_1]) fun (r : Int) => some r
theorem atoms_Compare_eq (k : Nat) (x : (Ty.D (.pair T_api_Atom T_api_Atom))) : evFn { T := T, specs := [(107, ⟨(.slice (.int .i64)), (.int .i64), cmp_Or_int k⟩), (108, ⟨(.pair (.int .i64) (.int .i64)), (.int .i64), cmp_Compare_int k⟩)], codes := codes, k := k, inpl := [(92, ⟨T_api_Atom, 93, sortF⟩)], ins := [(88, T_api_Field, 48)], calm := [58] } 6 Try.f93 [] (.pair T_api_Atom T_api_Atom) (.int .i64) x = atoms_Compare k x := by kernel_rfl
theorem atoms_Compare_spec (k : Nat) : SpecOk Try.prog GG 93 ⟨(.pair T_api_Atom T_api_Atom), (.int .i64), atoms_Compare k⟩ :=
  fn_spec (envOk (E := { T := T, specs := [(107, ⟨(.slice (.int .i64)), (.int .i64), cmp_Or_int k⟩), (108, ⟨(.pair (.int .i64) (.int .i64)), (.int .i64), cmp_Compare_int k⟩)], codes := codes, k := k, inpl := [(92, ⟨T_api_Atom, 93, sortF⟩)], ins := [(88, T_api_Field, 48)], calm := [58] }) tabOk (.cons (cmp_Or_int_spec k) f107_at f107_ok <| .cons (cmp_Compare_int_spec k) f108_at f108_ok <| .nil) codesOk mixedOk (fun _ _ _ _ => trivial) (hi := inplOk) (hj := insOk)) f93_at (fun x => (atoms_Compare_eq k x).symm)
noncomputable def atoms_right : (k : Nat) → (Ty.D T_api_Atom) → Option (Ty.D .bool) := fun (k : Nat) (x : T_api_Atom.D) => P.cond (P.ieq x.fst ((3 : Int))) (some (P.ile ((0 : Int)) x.snd)) (P.cond (P.ieq x.fst ((4 : Int))) (some (P.ile ((0 : Int)) x.snd)) (P.cond (P.ieq x.fst ((5 : Int))) (some (P.ile ((0 : Int)) x.snd)) (P.cond (P.ieq x.fst ((0 : Int))) (some (P.ieq x.snd ((0 : Int)))) (P.cond (P.ieq x.fst ((1 : Int))) (some (P.ieq x.snd ((0 : Int)))) (P.cond (P.ieq x.fst ((2 : Int))) (some (P.ieq x.snd ((0 : Int)))) (P.cond (P.ieq x.fst ((6 : Int))) (some (P.ieq x.snd ((0 : Int)))) (some false)))))))
theorem atoms_right_eq (k : Nat) (x : (Ty.D T_api_Atom)) : evFn { T := T, specs := [], codes := codes, k := k, inpl := [(92, ⟨T_api_Atom, 93, sortF⟩)], ins := [(88, T_api_Field, 48)], calm := [58] } 6 Try.f91 [] T_api_Atom .bool x = atoms_right k x := by kernel_rfl
theorem atoms_right_spec (k : Nat) : SpecOk Try.prog GG 91 ⟨T_api_Atom, .bool, atoms_right k⟩ :=
  fn_spec (envOk (E := { T := T, specs := [], codes := codes, k := k, inpl := [(92, ⟨T_api_Atom, 93, sortF⟩)], ins := [(88, T_api_Field, 48)], calm := [58] }) tabOk (.nil) codesOk mixedOk (fun _ _ _ _ => trivial) (hi := inplOk) (hj := insOk)) f91_at (fun x => (atoms_right_eq k x).symm)
noncomputable def atoms_Norm_1 : (k : Nat) → (Ty.D T_api_Atom) → Option (Ty.D .bool) := fun (k : Nat) (x : T_api_Atom.D) => P.bind (atoms_right k x) fun (r : Bool) => some (P.not r)
theorem atoms_Norm_1_eq (k : Nat) (x : (Ty.D T_api_Atom)) : evFn { T := T, specs := [(91, ⟨T_api_Atom, .bool, atoms_right k⟩)], codes := codes, k := k, inpl := [(92, ⟨T_api_Atom, 93, sortF⟩)], ins := [(88, T_api_Field, 48)], calm := [58] } 6 Try.f90 [] T_api_Atom .bool x = atoms_Norm_1 k x := by kernel_rfl
theorem atoms_Norm_1_spec (k : Nat) : SpecOk Try.prog GG 90 ⟨T_api_Atom, .bool, atoms_Norm_1 k⟩ :=
  fn_spec (envOk (E := { T := T, specs := [(91, ⟨T_api_Atom, .bool, atoms_right k⟩)], codes := codes, k := k, inpl := [(92, ⟨T_api_Atom, 93, sortF⟩)], ins := [(88, T_api_Field, 48)], calm := [58] }) tabOk (.cons (atoms_right_spec k) f91_at f91_ok <| .nil) codesOk mixedOk (fun _ _ _ _ => trivial) (hi := inplOk) (hj := insOk)) f90_at (fun x => (atoms_Norm_1_eq k x).symm)
noncomputable def law07_small : (k : Nat) → (Ty.D T_api_Shape) → Option (Ty.D .bool) := fun (k : Nat) (x : T_api_Shape.D) => P.bind (P.iter k (fun (y : Int) => P.cond (P.ilt y (P.len x.fst)) (P.cond (P.inb y (P.len x.fst)) (P.cond (P.ilt ((60 : Int)) (P.len (P.get x.fst y ((ByteArray.mk #[]), false, [])).snd.snd)) (some (Sum.inr (Sum.inr false))) (some (Sum.inl (P.wrap IntKind.i64 (P.add y ((1 : Int))))))) none) (some (Sum.inr (Sum.inl PUnit.unit)))) ((0 : Int))) (P.either (fun (z : PUnit) => P.cond (P.ile (P.len x.fst) ((60 : Int))) (some (P.ile (P.len x.snd) ((60 : Int)))) (some false)) fun (r : Bool) => some r)
theorem law07_small_eq (k : Nat) (x : (Ty.D T_api_Shape)) : evFn { T := T, specs := [], codes := codes, k := k, inpl := [(92, ⟨T_api_Atom, 93, sortF⟩)], ins := [(88, T_api_Field, 48)], calm := [58] } 6 Try.f14 [(2, ⟨[.var 3 (.d (.int .i64))], [], (some (0, []))⟩)] T_api_Shape .bool x = law07_small k x := by kernel_rfl
theorem law07_small_spec (k : Nat) : SpecOk Try.prog GG 14 ⟨T_api_Shape, .bool, law07_small k⟩ :=
  fn_spec (envOk (E := { T := T, specs := [], codes := codes, k := k, inpl := [(92, ⟨T_api_Atom, 93, sortF⟩)], ins := [(88, T_api_Field, 48)], calm := [58] }) tabOk (.nil) codesOk mixedOk (fun _ _ _ _ => trivial) (hi := inplOk) (hj := insOk)) f14_at (fun x => (law07_small_eq k x).symm)
noncomputable def atoms_Norm : (k : Nat) → (Ty.D (.slice T_api_Atom)) → Option (Ty.D (.slice T_api_Atom)) := fun (k : Nat) (x : T_api_Atom.slice.D) => P.cond (P.ilt ((0 : Int)) (P.len x)) (P.cond (P.not true) (P.bind (P.iter k (fun (y : Int) => P.cond (P.ilt y ((0 : Int))) none (some (Sum.inr (Sum.inl PUnit.unit)))) ((0 : Int))) (P.either (fun (z : PUnit) => P.cond (P.ieq ((-1 : Int)) ((-1 : Int))) (P.bind (sortF []) fun (x : List (Int × Int)) => P.cond (P.ilt ((0 : Int)) ((2 : Int))) (some []) (P.bind (P.iter k (fun (y : Int × List (Int × Int)) => P.cond (P.ilt y.fst ((0 : Int))) none (some (Sum.inr (Sum.inl [])))) ((1 : Int), [])) (P.either (fun (z : List (Int × Int)) => some []) fun (r : List (Int × Int)) => some r))) (P.bind (P.iter k (fun (y : Int × Int × List (Int × Int)) => P.cond (P.ilt y.snd.fst ((0 : Int))) none (some (Sum.inr (Sum.inl (y.fst, []))))) ((-1 : Int), P.wrap IntKind.i64 (P.add ((-1 : Int)) ((1 : Int))), [])) (P.either (fun (z : Int × List (Int × Int)) => P.cond (P.cut z.fst ((0 : Int)) ((0 : Int))) (P.cond (P.cut ((0 : Int)) z.fst ((0 : Int))) (P.bind (sortF []) fun (x : List (Int × Int)) => P.cond (P.ilt ((0 : Int)) ((2 : Int))) (some []) (P.bind (P.iter k (fun (y : Int × List (Int × Int)) => P.cond (P.ilt y.fst ((0 : Int))) none (some (Sum.inr (Sum.inl [])))) ((1 : Int), [])) (P.either (fun (z : List (Int × Int)) => some []) fun (r : List (Int × Int)) => some r))) none) none) fun (r : List (Int × Int)) => some r))) fun (r : List (Int × Int)) => some r)) (P.cond (P.room (P.add (P.len (P.nil (Int × Int))) (P.len x)) 16) (P.bind (P.iter k (fun (y : Int) => P.cond (P.ilt y (P.len (P.app [] x))) (P.cond (P.inb y (P.len (P.app [] x))) (P.bind (atoms_Norm_1 k (P.get (P.app [] x) y ((0 : Int), (0 : Int)))) fun (r : Bool) => P.cond r (P.map (fun (r : List (Int × Int)) => Sum.inr (Sum.inr r)) (P.cond (P.ieq y ((-1 : Int))) (P.bind (sortF (P.app [] x)) fun (ys : List (Int × Int)) => P.cond (P.ilt (P.len ys) ((2 : Int))) (some ys) (P.bind (P.iter k (fun (y : Int × List (Int × Int)) => P.cond (P.ilt y.fst (P.len y.snd)) (P.cond (P.inb y.fst (P.len y.snd)) (P.cond (P.inb (P.wrap IntKind.i64 (P.sub y.fst ((1 : Int)))) (P.len y.snd)) (P.cond (P.and (P.ieq (P.get y.snd y.fst ((0 : Int), (0 : Int))).fst (P.get y.snd (P.wrap IntKind.i64 (P.sub y.fst ((1 : Int)))) ((0 : Int), (0 : Int))).fst) (P.ieq (P.get y.snd y.fst ((0 : Int), (0 : Int))).snd (P.get y.snd (P.wrap IntKind.i64 (P.sub y.fst ((1 : Int)))) ((0 : Int), (0 : Int))).snd)) (P.cond (P.cut y.fst (P.len y.snd) (P.len y.snd)) (P.bind (P.iter k (fun (y_1 : Int × Int × List (Int × Int)) => P.cond (P.ilt y_1.snd.fst (P.sub (P.len y.snd) y.fst)) (P.cond (P.inb y_1.snd.fst (P.sub (P.len y.snd) y.fst)) (P.cond (P.inb (P.wrap IntKind.i64 (P.sub y_1.snd.fst ((1 : Int)))) (P.sub (P.len y.snd) y.fst)) (P.cond (P.not (P.and (P.ieq (P.get y_1.snd.snd (P.add y.fst y_1.snd.fst) ((0 : Int), (0 : Int))).fst (P.get y_1.snd.snd (P.add y.fst (P.wrap IntKind.i64 (P.sub y_1.snd.fst ((1 : Int))))) ((0 : Int), (0 : Int))).fst) (P.ieq (P.get y_1.snd.snd (P.add y.fst y_1.snd.fst) ((0 : Int), (0 : Int))).snd (P.get y_1.snd.snd (P.add y.fst (P.wrap IntKind.i64 (P.sub y_1.snd.fst ((1 : Int))))) ((0 : Int), (0 : Int))).snd))) (P.cond (P.inb y_1.snd.fst (P.sub (P.len y.snd) y.fst)) (P.cond (P.inb y_1.fst (P.len y_1.snd.snd)) (some (Sum.inl (P.wrap IntKind.i64 (P.add y_1.fst ((1 : Int))), P.wrap IntKind.i64 (P.add y_1.snd.fst ((1 : Int))), P.set y_1.snd.snd y_1.fst (P.get y_1.snd.snd (P.add y.fst y_1.snd.fst) ((0 : Int), (0 : Int)))))) none) none) (some (Sum.inl (y_1.fst, P.wrap IntKind.i64 (P.add y_1.snd.fst ((1 : Int))), y_1.snd.snd)))) none) none) (some (Sum.inr (Sum.inl (y_1.fst, y_1.snd.snd))))) (y.fst, (1 : Int), y.snd)) (P.either (fun (z : Int × List (Int × Int)) => P.cond (P.cut z.fst (P.len z.snd) (P.len z.snd)) (P.cond (P.cut ((0 : Int)) z.fst (P.len (P.fill z.snd z.fst (P.sub (P.len z.snd) z.fst) ((0 : Int), (0 : Int))))) (some (Sum.inr (Sum.inr (P.sub_ (P.fill z.snd z.fst (P.sub (P.len z.snd) z.fst) ((0 : Int), (0 : Int))) ((0 : Int)) z.fst)))) none) none) fun (r : Int × List (Int × Int) ⊕ List (Int × Int) ⊕ List (Int × Int)) => some r)) none) (some (Sum.inl (P.wrap IntKind.i64 (P.add y.fst ((1 : Int))), y.snd)))) none) none) (some (Sum.inr (Sum.inl y.snd)))) ((1 : Int), ys)) (P.either (fun (z : List (Int × Int)) => some z) fun (r : List (Int × Int)) => some r))) (P.bind (P.iter k (fun (y : Int × Int × List (Int × Int)) => P.cond (P.ilt y.snd.fst (P.len y.snd.snd)) (P.cond (P.inb y.snd.fst (P.len y.snd.snd)) (P.bind (atoms_Norm_1 k (P.get y.snd.snd y.snd.fst ((0 : Int), (0 : Int)))) fun (r : Bool) => P.cond (P.not r) (P.cond (P.inb y.fst (P.len y.snd.snd)) (some (Sum.inl (P.wrap IntKind.i64 (P.add y.fst ((1 : Int))), P.wrap IntKind.i64 (P.add y.snd.fst ((1 : Int))), P.set y.snd.snd y.fst (P.get y.snd.snd y.snd.fst ((0 : Int), (0 : Int)))))) none) (some (Sum.inl (y.fst, P.wrap IntKind.i64 (P.add y.snd.fst ((1 : Int))), y.snd.snd)))) none) (some (Sum.inr (Sum.inl (y.fst, y.snd.snd))))) (y, P.wrap IntKind.i64 (P.add y ((1 : Int))), P.app [] x)) (P.either (fun (z : Int × List (Int × Int)) => P.cond (P.cut z.fst (P.len z.snd) (P.len z.snd)) (P.cond (P.cut ((0 : Int)) z.fst (P.len (P.fill z.snd z.fst (P.sub (P.len z.snd) z.fst) ((0 : Int), (0 : Int))))) (P.bind (sortF (P.sub_ (P.fill z.snd z.fst (P.sub (P.len z.snd) z.fst) ((0 : Int), (0 : Int))) ((0 : Int)) z.fst)) fun (ys : List (Int × Int)) => P.cond (P.ilt (P.len ys) ((2 : Int))) (some ys) (P.bind (P.iter k (fun (y : Int × List (Int × Int)) => P.cond (P.ilt y.fst (P.len y.snd)) (P.cond (P.inb y.fst (P.len y.snd)) (P.cond (P.inb (P.wrap IntKind.i64 (P.sub y.fst ((1 : Int)))) (P.len y.snd)) (P.cond (P.and (P.ieq (P.get y.snd y.fst ((0 : Int), (0 : Int))).fst (P.get y.snd (P.wrap IntKind.i64 (P.sub y.fst ((1 : Int)))) ((0 : Int), (0 : Int))).fst) (P.ieq (P.get y.snd y.fst ((0 : Int), (0 : Int))).snd (P.get y.snd (P.wrap IntKind.i64 (P.sub y.fst ((1 : Int)))) ((0 : Int), (0 : Int))).snd)) (P.cond (P.cut y.fst (P.len y.snd) (P.len y.snd)) (P.bind (P.iter k (fun (y_1 : Int × Int × List (Int × Int)) => P.cond (P.ilt y_1.snd.fst (P.sub (P.len y.snd) y.fst)) (P.cond (P.inb y_1.snd.fst (P.sub (P.len y.snd) y.fst)) (P.cond (P.inb (P.wrap IntKind.i64 (P.sub y_1.snd.fst ((1 : Int)))) (P.sub (P.len y.snd) y.fst)) (P.cond (P.not (P.and (P.ieq (P.get y_1.snd.snd (P.add y.fst y_1.snd.fst) ((0 : Int), (0 : Int))).fst (P.get y_1.snd.snd (P.add y.fst (P.wrap IntKind.i64 (P.sub y_1.snd.fst ((1 : Int))))) ((0 : Int), (0 : Int))).fst) (P.ieq (P.get y_1.snd.snd (P.add y.fst y_1.snd.fst) ((0 : Int), (0 : Int))).snd (P.get y_1.snd.snd (P.add y.fst (P.wrap IntKind.i64 (P.sub y_1.snd.fst ((1 : Int))))) ((0 : Int), (0 : Int))).snd))) (P.cond (P.inb y_1.snd.fst (P.sub (P.len y.snd) y.fst)) (P.cond (P.inb y_1.fst (P.len y_1.snd.snd)) (some (Sum.inl (P.wrap IntKind.i64 (P.add y_1.fst ((1 : Int))), P.wrap IntKind.i64 (P.add y_1.snd.fst ((1 : Int))), P.set y_1.snd.snd y_1.fst (P.get y_1.snd.snd (P.add y.fst y_1.snd.fst) ((0 : Int), (0 : Int)))))) none) none) (some (Sum.inl (y_1.fst, P.wrap IntKind.i64 (P.add y_1.snd.fst ((1 : Int))), y_1.snd.snd)))) none) none) (some (Sum.inr (Sum.inl (y_1.fst, y_1.snd.snd))))) (y.fst, (1 : Int), y.snd)) (P.either (fun (z : Int × List (Int × Int)) => P.cond (P.cut z.fst (P.len z.snd) (P.len z.snd)) (P.cond (P.cut ((0 : Int)) z.fst (P.len (P.fill z.snd z.fst (P.sub (P.len z.snd) z.fst) ((0 : Int), (0 : Int))))) (some (Sum.inr (Sum.inr (P.sub_ (P.fill z.snd z.fst (P.sub (P.len z.snd) z.fst) ((0 : Int), (0 : Int))) ((0 : Int)) z.fst)))) none) none) fun (r : Int × List (Int × Int) ⊕ List (Int × Int) ⊕ List (Int × Int)) => some r)) none) (some (Sum.inl (P.wrap IntKind.i64 (P.add y.fst ((1 : Int))), y.snd)))) none) none) (some (Sum.inr (Sum.inl y.snd)))) ((1 : Int), ys)) (P.either (fun (z : List (Int × Int)) => some z) fun (r : List (Int × Int)) => some r))) none) none) fun (r : List (Int × Int)) => some r)))) (some (Sum.inl (P.wrap IntKind.i64 (P.add y ((1 : Int))))))) none) (some (Sum.inr (Sum.inl PUnit.unit)))) ((0 : Int))) (P.either (fun (z : PUnit) => P.cond (P.ieq ((-1 : Int)) ((-1 : Int))) (P.bind (sortF (P.app [] x)) fun (ys : List (Int × Int)) => P.cond (P.ilt (P.len ys) ((2 : Int))) (some ys) (P.bind (P.iter k (fun (y : Int × List (Int × Int)) => P.cond (P.ilt y.fst (P.len y.snd)) (P.cond (P.inb y.fst (P.len y.snd)) (P.cond (P.inb (P.wrap IntKind.i64 (P.sub y.fst ((1 : Int)))) (P.len y.snd)) (P.cond (P.and (P.ieq (P.get y.snd y.fst ((0 : Int), (0 : Int))).fst (P.get y.snd (P.wrap IntKind.i64 (P.sub y.fst ((1 : Int)))) ((0 : Int), (0 : Int))).fst) (P.ieq (P.get y.snd y.fst ((0 : Int), (0 : Int))).snd (P.get y.snd (P.wrap IntKind.i64 (P.sub y.fst ((1 : Int)))) ((0 : Int), (0 : Int))).snd)) (P.cond (P.cut y.fst (P.len y.snd) (P.len y.snd)) (P.bind (P.iter k (fun (y_1 : Int × Int × List (Int × Int)) => P.cond (P.ilt y_1.snd.fst (P.sub (P.len y.snd) y.fst)) (P.cond (P.inb y_1.snd.fst (P.sub (P.len y.snd) y.fst)) (P.cond (P.inb (P.wrap IntKind.i64 (P.sub y_1.snd.fst ((1 : Int)))) (P.sub (P.len y.snd) y.fst)) (P.cond (P.not (P.and (P.ieq (P.get y_1.snd.snd (P.add y.fst y_1.snd.fst) ((0 : Int), (0 : Int))).fst (P.get y_1.snd.snd (P.add y.fst (P.wrap IntKind.i64 (P.sub y_1.snd.fst ((1 : Int))))) ((0 : Int), (0 : Int))).fst) (P.ieq (P.get y_1.snd.snd (P.add y.fst y_1.snd.fst) ((0 : Int), (0 : Int))).snd (P.get y_1.snd.snd (P.add y.fst (P.wrap IntKind.i64 (P.sub y_1.snd.fst ((1 : Int))))) ((0 : Int), (0 : Int))).snd))) (P.cond (P.inb y_1.snd.fst (P.sub (P.len y.snd) y.fst)) (P.cond (P.inb y_1.fst (P.len y_1.snd.snd)) (some (Sum.inl (P.wrap IntKind.i64 (P.add y_1.fst ((1 : Int))), P.wrap IntKind.i64 (P.add y_1.snd.fst ((1 : Int))), P.set y_1.snd.snd y_1.fst (P.get y_1.snd.snd (P.add y.fst y_1.snd.fst) ((0 : Int), (0 : Int)))))) none) none) (some (Sum.inl (y_1.fst, P.wrap IntKind.i64 (P.add y_1.snd.fst ((1 : Int))), y_1.snd.snd)))) none) none) (some (Sum.inr (Sum.inl (y_1.fst, y_1.snd.snd))))) (y.fst, (1 : Int), y.snd)) (P.either (fun (z : Int × List (Int × Int)) => P.cond (P.cut z.fst (P.len z.snd) (P.len z.snd)) (P.cond (P.cut ((0 : Int)) z.fst (P.len (P.fill z.snd z.fst (P.sub (P.len z.snd) z.fst) ((0 : Int), (0 : Int))))) (some (Sum.inr (Sum.inr (P.sub_ (P.fill z.snd z.fst (P.sub (P.len z.snd) z.fst) ((0 : Int), (0 : Int))) ((0 : Int)) z.fst)))) none) none) fun (r : Int × List (Int × Int) ⊕ List (Int × Int) ⊕ List (Int × Int)) => some r)) none) (some (Sum.inl (P.wrap IntKind.i64 (P.add y.fst ((1 : Int))), y.snd)))) none) none) (some (Sum.inr (Sum.inl y.snd)))) ((1 : Int), ys)) (P.either (fun (z : List (Int × Int)) => some z) fun (r : List (Int × Int)) => some r))) (P.bind (P.iter k (fun (y : Int × Int × List (Int × Int)) => P.cond (P.ilt y.snd.fst (P.len y.snd.snd)) (P.cond (P.inb y.snd.fst (P.len y.snd.snd)) (P.bind (atoms_Norm_1 k (P.get y.snd.snd y.snd.fst ((0 : Int), (0 : Int)))) fun (r : Bool) => P.cond (P.not r) (P.cond (P.inb y.fst (P.len y.snd.snd)) (some (Sum.inl (P.wrap IntKind.i64 (P.add y.fst ((1 : Int))), P.wrap IntKind.i64 (P.add y.snd.fst ((1 : Int))), P.set y.snd.snd y.fst (P.get y.snd.snd y.snd.fst ((0 : Int), (0 : Int)))))) none) (some (Sum.inl (y.fst, P.wrap IntKind.i64 (P.add y.snd.fst ((1 : Int))), y.snd.snd)))) none) (some (Sum.inr (Sum.inl (y.fst, y.snd.snd))))) ((-1 : Int), P.wrap IntKind.i64 (P.add ((-1 : Int)) ((1 : Int))), P.app [] x)) (P.either (fun (z : Int × List (Int × Int)) => P.cond (P.cut z.fst (P.len z.snd) (P.len z.snd)) (P.cond (P.cut ((0 : Int)) z.fst (P.len (P.fill z.snd z.fst (P.sub (P.len z.snd) z.fst) ((0 : Int), (0 : Int))))) (P.bind (sortF (P.sub_ (P.fill z.snd z.fst (P.sub (P.len z.snd) z.fst) ((0 : Int), (0 : Int))) ((0 : Int)) z.fst)) fun (ys : List (Int × Int)) => P.cond (P.ilt (P.len ys) ((2 : Int))) (some ys) (P.bind (P.iter k (fun (y : Int × List (Int × Int)) => P.cond (P.ilt y.fst (P.len y.snd)) (P.cond (P.inb y.fst (P.len y.snd)) (P.cond (P.inb (P.wrap IntKind.i64 (P.sub y.fst ((1 : Int)))) (P.len y.snd)) (P.cond (P.and (P.ieq (P.get y.snd y.fst ((0 : Int), (0 : Int))).fst (P.get y.snd (P.wrap IntKind.i64 (P.sub y.fst ((1 : Int)))) ((0 : Int), (0 : Int))).fst) (P.ieq (P.get y.snd y.fst ((0 : Int), (0 : Int))).snd (P.get y.snd (P.wrap IntKind.i64 (P.sub y.fst ((1 : Int)))) ((0 : Int), (0 : Int))).snd)) (P.cond (P.cut y.fst (P.len y.snd) (P.len y.snd)) (P.bind (P.iter k (fun (y_1 : Int × Int × List (Int × Int)) => P.cond (P.ilt y_1.snd.fst (P.sub (P.len y.snd) y.fst)) (P.cond (P.inb y_1.snd.fst (P.sub (P.len y.snd) y.fst)) (P.cond (P.inb (P.wrap IntKind.i64 (P.sub y_1.snd.fst ((1 : Int)))) (P.sub (P.len y.snd) y.fst)) (P.cond (P.not (P.and (P.ieq (P.get y_1.snd.snd (P.add y.fst y_1.snd.fst) ((0 : Int), (0 : Int))).fst (P.get y_1.snd.snd (P.add y.fst (P.wrap IntKind.i64 (P.sub y_1.snd.fst ((1 : Int))))) ((0 : Int), (0 : Int))).fst) (P.ieq (P.get y_1.snd.snd (P.add y.fst y_1.snd.fst) ((0 : Int), (0 : Int))).snd (P.get y_1.snd.snd (P.add y.fst (P.wrap IntKind.i64 (P.sub y_1.snd.fst ((1 : Int))))) ((0 : Int), (0 : Int))).snd))) (P.cond (P.inb y_1.snd.fst (P.sub (P.len y.snd) y.fst)) (P.cond (P.inb y_1.fst (P.len y_1.snd.snd)) (some (Sum.inl (P.wrap IntKind.i64 (P.add y_1.fst ((1 : Int))), P.wrap IntKind.i64 (P.add y_1.snd.fst ((1 : Int))), P.set y_1.snd.snd y_1.fst (P.get y_1.snd.snd (P.add y.fst y_1.snd.fst) ((0 : Int), (0 : Int)))))) none) none) (some (Sum.inl (y_1.fst, P.wrap IntKind.i64 (P.add y_1.snd.fst ((1 : Int))), y_1.snd.snd)))) none) none) (some (Sum.inr (Sum.inl (y_1.fst, y_1.snd.snd))))) (y.fst, (1 : Int), y.snd)) (P.either (fun (z : Int × List (Int × Int)) => P.cond (P.cut z.fst (P.len z.snd) (P.len z.snd)) (P.cond (P.cut ((0 : Int)) z.fst (P.len (P.fill z.snd z.fst (P.sub (P.len z.snd) z.fst) ((0 : Int), (0 : Int))))) (some (Sum.inr (Sum.inr (P.sub_ (P.fill z.snd z.fst (P.sub (P.len z.snd) z.fst) ((0 : Int), (0 : Int))) ((0 : Int)) z.fst)))) none) none) fun (r : Int × List (Int × Int) ⊕ List (Int × Int) ⊕ List (Int × Int)) => some r)) none) (some (Sum.inl (P.wrap IntKind.i64 (P.add y.fst ((1 : Int))), y.snd)))) none) none) (some (Sum.inr (Sum.inl y.snd)))) ((1 : Int), ys)) (P.either (fun (z : List (Int × Int)) => some z) fun (r : List (Int × Int)) => some r))) none) none) fun (r : List (Int × Int)) => some r))) fun (r : List (Int × Int)) => some r)) none)) (P.amb (P.bind (P.iter k (fun (y : Int) => P.cond (P.ilt y ((0 : Int))) none (some (Sum.inr (Sum.inl PUnit.unit)))) ((0 : Int))) (P.either (fun (z : PUnit) => P.cond (P.ieq ((-1 : Int)) ((-1 : Int))) (P.bind (sortF []) fun (x : List (Int × Int)) => P.cond (P.ilt ((0 : Int)) ((2 : Int))) (some []) (P.bind (P.iter k (fun (y : Int × List (Int × Int)) => P.cond (P.ilt y.fst ((0 : Int))) none (some (Sum.inr (Sum.inl [])))) ((1 : Int), [])) (P.either (fun (z : List (Int × Int)) => some []) fun (r : List (Int × Int)) => some r))) (P.bind (P.iter k (fun (y : Int × Int × List (Int × Int)) => P.cond (P.ilt y.snd.fst ((0 : Int))) none (some (Sum.inr (Sum.inl (y.fst, []))))) ((-1 : Int), P.wrap IntKind.i64 (P.add ((-1 : Int)) ((1 : Int))), [])) (P.either (fun (z : Int × List (Int × Int)) => P.cond (P.cut z.fst ((0 : Int)) ((0 : Int))) (P.cond (P.cut ((0 : Int)) z.fst ((0 : Int))) (P.bind (sortF []) fun (x : List (Int × Int)) => P.cond (P.ilt ((0 : Int)) ((2 : Int))) (some []) (P.bind (P.iter k (fun (y : Int × List (Int × Int)) => P.cond (P.ilt y.fst ((0 : Int))) none (some (Sum.inr (Sum.inl [])))) ((1 : Int), [])) (P.either (fun (z : List (Int × Int)) => some []) fun (r : List (Int × Int)) => some r))) none) none) fun (r : List (Int × Int)) => some r))) fun (r : List (Int × Int)) => some r)) (P.cond (P.room (P.add (P.len (P.nil (Int × Int))) (P.len x)) 16) (P.bind (P.iter k (fun (y : Int) => P.cond (P.ilt y (P.len (P.app [] x))) (P.cond (P.inb y (P.len (P.app [] x))) (P.bind (atoms_Norm_1 k (P.get (P.app [] x) y ((0 : Int), (0 : Int)))) fun (r : Bool) => P.cond r (P.map (fun (r : List (Int × Int)) => Sum.inr (Sum.inr r)) (P.cond (P.ieq y ((-1 : Int))) (P.bind (sortF (P.app [] x)) fun (ys : List (Int × Int)) => P.cond (P.ilt (P.len ys) ((2 : Int))) (some ys) (P.bind (P.iter k (fun (y : Int × List (Int × Int)) => P.cond (P.ilt y.fst (P.len y.snd)) (P.cond (P.inb y.fst (P.len y.snd)) (P.cond (P.inb (P.wrap IntKind.i64 (P.sub y.fst ((1 : Int)))) (P.len y.snd)) (P.cond (P.and (P.ieq (P.get y.snd y.fst ((0 : Int), (0 : Int))).fst (P.get y.snd (P.wrap IntKind.i64 (P.sub y.fst ((1 : Int)))) ((0 : Int), (0 : Int))).fst) (P.ieq (P.get y.snd y.fst ((0 : Int), (0 : Int))).snd (P.get y.snd (P.wrap IntKind.i64 (P.sub y.fst ((1 : Int)))) ((0 : Int), (0 : Int))).snd)) (P.cond (P.cut y.fst (P.len y.snd) (P.len y.snd)) (P.bind (P.iter k (fun (y_1 : Int × Int × List (Int × Int)) => P.cond (P.ilt y_1.snd.fst (P.sub (P.len y.snd) y.fst)) (P.cond (P.inb y_1.snd.fst (P.sub (P.len y.snd) y.fst)) (P.cond (P.inb (P.wrap IntKind.i64 (P.sub y_1.snd.fst ((1 : Int)))) (P.sub (P.len y.snd) y.fst)) (P.cond (P.not (P.and (P.ieq (P.get y_1.snd.snd (P.add y.fst y_1.snd.fst) ((0 : Int), (0 : Int))).fst (P.get y_1.snd.snd (P.add y.fst (P.wrap IntKind.i64 (P.sub y_1.snd.fst ((1 : Int))))) ((0 : Int), (0 : Int))).fst) (P.ieq (P.get y_1.snd.snd (P.add y.fst y_1.snd.fst) ((0 : Int), (0 : Int))).snd (P.get y_1.snd.snd (P.add y.fst (P.wrap IntKind.i64 (P.sub y_1.snd.fst ((1 : Int))))) ((0 : Int), (0 : Int))).snd))) (P.cond (P.inb y_1.snd.fst (P.sub (P.len y.snd) y.fst)) (P.cond (P.inb y_1.fst (P.len y_1.snd.snd)) (some (Sum.inl (P.wrap IntKind.i64 (P.add y_1.fst ((1 : Int))), P.wrap IntKind.i64 (P.add y_1.snd.fst ((1 : Int))), P.set y_1.snd.snd y_1.fst (P.get y_1.snd.snd (P.add y.fst y_1.snd.fst) ((0 : Int), (0 : Int)))))) none) none) (some (Sum.inl (y_1.fst, P.wrap IntKind.i64 (P.add y_1.snd.fst ((1 : Int))), y_1.snd.snd)))) none) none) (some (Sum.inr (Sum.inl (y_1.fst, y_1.snd.snd))))) (y.fst, (1 : Int), y.snd)) (P.either (fun (z : Int × List (Int × Int)) => P.cond (P.cut z.fst (P.len z.snd) (P.len z.snd)) (P.cond (P.cut ((0 : Int)) z.fst (P.len (P.fill z.snd z.fst (P.sub (P.len z.snd) z.fst) ((0 : Int), (0 : Int))))) (some (Sum.inr (Sum.inr (P.sub_ (P.fill z.snd z.fst (P.sub (P.len z.snd) z.fst) ((0 : Int), (0 : Int))) ((0 : Int)) z.fst)))) none) none) fun (r : Int × List (Int × Int) ⊕ List (Int × Int) ⊕ List (Int × Int)) => some r)) none) (some (Sum.inl (P.wrap IntKind.i64 (P.add y.fst ((1 : Int))), y.snd)))) none) none) (some (Sum.inr (Sum.inl y.snd)))) ((1 : Int), ys)) (P.either (fun (z : List (Int × Int)) => some z) fun (r : List (Int × Int)) => some r))) (P.bind (P.iter k (fun (y : Int × Int × List (Int × Int)) => P.cond (P.ilt y.snd.fst (P.len y.snd.snd)) (P.cond (P.inb y.snd.fst (P.len y.snd.snd)) (P.bind (atoms_Norm_1 k (P.get y.snd.snd y.snd.fst ((0 : Int), (0 : Int)))) fun (r : Bool) => P.cond (P.not r) (P.cond (P.inb y.fst (P.len y.snd.snd)) (some (Sum.inl (P.wrap IntKind.i64 (P.add y.fst ((1 : Int))), P.wrap IntKind.i64 (P.add y.snd.fst ((1 : Int))), P.set y.snd.snd y.fst (P.get y.snd.snd y.snd.fst ((0 : Int), (0 : Int)))))) none) (some (Sum.inl (y.fst, P.wrap IntKind.i64 (P.add y.snd.fst ((1 : Int))), y.snd.snd)))) none) (some (Sum.inr (Sum.inl (y.fst, y.snd.snd))))) (y, P.wrap IntKind.i64 (P.add y ((1 : Int))), P.app [] x)) (P.either (fun (z : Int × List (Int × Int)) => P.cond (P.cut z.fst (P.len z.snd) (P.len z.snd)) (P.cond (P.cut ((0 : Int)) z.fst (P.len (P.fill z.snd z.fst (P.sub (P.len z.snd) z.fst) ((0 : Int), (0 : Int))))) (P.bind (sortF (P.sub_ (P.fill z.snd z.fst (P.sub (P.len z.snd) z.fst) ((0 : Int), (0 : Int))) ((0 : Int)) z.fst)) fun (ys : List (Int × Int)) => P.cond (P.ilt (P.len ys) ((2 : Int))) (some ys) (P.bind (P.iter k (fun (y : Int × List (Int × Int)) => P.cond (P.ilt y.fst (P.len y.snd)) (P.cond (P.inb y.fst (P.len y.snd)) (P.cond (P.inb (P.wrap IntKind.i64 (P.sub y.fst ((1 : Int)))) (P.len y.snd)) (P.cond (P.and (P.ieq (P.get y.snd y.fst ((0 : Int), (0 : Int))).fst (P.get y.snd (P.wrap IntKind.i64 (P.sub y.fst ((1 : Int)))) ((0 : Int), (0 : Int))).fst) (P.ieq (P.get y.snd y.fst ((0 : Int), (0 : Int))).snd (P.get y.snd (P.wrap IntKind.i64 (P.sub y.fst ((1 : Int)))) ((0 : Int), (0 : Int))).snd)) (P.cond (P.cut y.fst (P.len y.snd) (P.len y.snd)) (P.bind (P.iter k (fun (y_1 : Int × Int × List (Int × Int)) => P.cond (P.ilt y_1.snd.fst (P.sub (P.len y.snd) y.fst)) (P.cond (P.inb y_1.snd.fst (P.sub (P.len y.snd) y.fst)) (P.cond (P.inb (P.wrap IntKind.i64 (P.sub y_1.snd.fst ((1 : Int)))) (P.sub (P.len y.snd) y.fst)) (P.cond (P.not (P.and (P.ieq (P.get y_1.snd.snd (P.add y.fst y_1.snd.fst) ((0 : Int), (0 : Int))).fst (P.get y_1.snd.snd (P.add y.fst (P.wrap IntKind.i64 (P.sub y_1.snd.fst ((1 : Int))))) ((0 : Int), (0 : Int))).fst) (P.ieq (P.get y_1.snd.snd (P.add y.fst y_1.snd.fst) ((0 : Int), (0 : Int))).snd (P.get y_1.snd.snd (P.add y.fst (P.wrap IntKind.i64 (P.sub y_1.snd.fst ((1 : Int))))) ((0 : Int), (0 : Int))).snd))) (P.cond (P.inb y_1.snd.fst (P.sub (P.len y.snd) y.fst)) (P.cond (P.inb y_1.fst (P.len y_1.snd.snd)) (some (Sum.inl (P.wrap IntKind.i64 (P.add y_1.fst ((1 : Int))), P.wrap IntKind.i64 (P.add y_1.snd.fst ((1 : Int))), P.set y_1.snd.snd y_1.fst (P.get y_1.snd.snd (P.add y.fst y_1.snd.fst) ((0 : Int), (0 : Int)))))) none) none) (some (Sum.inl (y_1.fst, P.wrap IntKind.i64 (P.add y_1.snd.fst ((1 : Int))), y_1.snd.snd)))) none) none) (some (Sum.inr (Sum.inl (y_1.fst, y_1.snd.snd))))) (y.fst, (1 : Int), y.snd)) (P.either (fun (z : Int × List (Int × Int)) => P.cond (P.cut z.fst (P.len z.snd) (P.len z.snd)) (P.cond (P.cut ((0 : Int)) z.fst (P.len (P.fill z.snd z.fst (P.sub (P.len z.snd) z.fst) ((0 : Int), (0 : Int))))) (some (Sum.inr (Sum.inr (P.sub_ (P.fill z.snd z.fst (P.sub (P.len z.snd) z.fst) ((0 : Int), (0 : Int))) ((0 : Int)) z.fst)))) none) none) fun (r : Int × List (Int × Int) ⊕ List (Int × Int) ⊕ List (Int × Int)) => some r)) none) (some (Sum.inl (P.wrap IntKind.i64 (P.add y.fst ((1 : Int))), y.snd)))) none) none) (some (Sum.inr (Sum.inl y.snd)))) ((1 : Int), ys)) (P.either (fun (z : List (Int × Int)) => some z) fun (r : List (Int × Int)) => some r))) none) none) fun (r : List (Int × Int)) => some r)))) (some (Sum.inl (P.wrap IntKind.i64 (P.add y ((1 : Int))))))) none) (some (Sum.inr (Sum.inl PUnit.unit)))) ((0 : Int))) (P.either (fun (z : PUnit) => P.cond (P.ieq ((-1 : Int)) ((-1 : Int))) (P.bind (sortF (P.app [] x)) fun (ys : List (Int × Int)) => P.cond (P.ilt (P.len ys) ((2 : Int))) (some ys) (P.bind (P.iter k (fun (y : Int × List (Int × Int)) => P.cond (P.ilt y.fst (P.len y.snd)) (P.cond (P.inb y.fst (P.len y.snd)) (P.cond (P.inb (P.wrap IntKind.i64 (P.sub y.fst ((1 : Int)))) (P.len y.snd)) (P.cond (P.and (P.ieq (P.get y.snd y.fst ((0 : Int), (0 : Int))).fst (P.get y.snd (P.wrap IntKind.i64 (P.sub y.fst ((1 : Int)))) ((0 : Int), (0 : Int))).fst) (P.ieq (P.get y.snd y.fst ((0 : Int), (0 : Int))).snd (P.get y.snd (P.wrap IntKind.i64 (P.sub y.fst ((1 : Int)))) ((0 : Int), (0 : Int))).snd)) (P.cond (P.cut y.fst (P.len y.snd) (P.len y.snd)) (P.bind (P.iter k (fun (y_1 : Int × Int × List (Int × Int)) => P.cond (P.ilt y_1.snd.fst (P.sub (P.len y.snd) y.fst)) (P.cond (P.inb y_1.snd.fst (P.sub (P.len y.snd) y.fst)) (P.cond (P.inb (P.wrap IntKind.i64 (P.sub y_1.snd.fst ((1 : Int)))) (P.sub (P.len y.snd) y.fst)) (P.cond (P.not (P.and (P.ieq (P.get y_1.snd.snd (P.add y.fst y_1.snd.fst) ((0 : Int), (0 : Int))).fst (P.get y_1.snd.snd (P.add y.fst (P.wrap IntKind.i64 (P.sub y_1.snd.fst ((1 : Int))))) ((0 : Int), (0 : Int))).fst) (P.ieq (P.get y_1.snd.snd (P.add y.fst y_1.snd.fst) ((0 : Int), (0 : Int))).snd (P.get y_1.snd.snd (P.add y.fst (P.wrap IntKind.i64 (P.sub y_1.snd.fst ((1 : Int))))) ((0 : Int), (0 : Int))).snd))) (P.cond (P.inb y_1.snd.fst (P.sub (P.len y.snd) y.fst)) (P.cond (P.inb y_1.fst (P.len y_1.snd.snd)) (some (Sum.inl (P.wrap IntKind.i64 (P.add y_1.fst ((1 : Int))), P.wrap IntKind.i64 (P.add y_1.snd.fst ((1 : Int))), P.set y_1.snd.snd y_1.fst (P.get y_1.snd.snd (P.add y.fst y_1.snd.fst) ((0 : Int), (0 : Int)))))) none) none) (some (Sum.inl (y_1.fst, P.wrap IntKind.i64 (P.add y_1.snd.fst ((1 : Int))), y_1.snd.snd)))) none) none) (some (Sum.inr (Sum.inl (y_1.fst, y_1.snd.snd))))) (y.fst, (1 : Int), y.snd)) (P.either (fun (z : Int × List (Int × Int)) => P.cond (P.cut z.fst (P.len z.snd) (P.len z.snd)) (P.cond (P.cut ((0 : Int)) z.fst (P.len (P.fill z.snd z.fst (P.sub (P.len z.snd) z.fst) ((0 : Int), (0 : Int))))) (some (Sum.inr (Sum.inr (P.sub_ (P.fill z.snd z.fst (P.sub (P.len z.snd) z.fst) ((0 : Int), (0 : Int))) ((0 : Int)) z.fst)))) none) none) fun (r : Int × List (Int × Int) ⊕ List (Int × Int) ⊕ List (Int × Int)) => some r)) none) (some (Sum.inl (P.wrap IntKind.i64 (P.add y.fst ((1 : Int))), y.snd)))) none) none) (some (Sum.inr (Sum.inl y.snd)))) ((1 : Int), ys)) (P.either (fun (z : List (Int × Int)) => some z) fun (r : List (Int × Int)) => some r))) (P.bind (P.iter k (fun (y : Int × Int × List (Int × Int)) => P.cond (P.ilt y.snd.fst (P.len y.snd.snd)) (P.cond (P.inb y.snd.fst (P.len y.snd.snd)) (P.bind (atoms_Norm_1 k (P.get y.snd.snd y.snd.fst ((0 : Int), (0 : Int)))) fun (r : Bool) => P.cond (P.not r) (P.cond (P.inb y.fst (P.len y.snd.snd)) (some (Sum.inl (P.wrap IntKind.i64 (P.add y.fst ((1 : Int))), P.wrap IntKind.i64 (P.add y.snd.fst ((1 : Int))), P.set y.snd.snd y.fst (P.get y.snd.snd y.snd.fst ((0 : Int), (0 : Int)))))) none) (some (Sum.inl (y.fst, P.wrap IntKind.i64 (P.add y.snd.fst ((1 : Int))), y.snd.snd)))) none) (some (Sum.inr (Sum.inl (y.fst, y.snd.snd))))) ((-1 : Int), P.wrap IntKind.i64 (P.add ((-1 : Int)) ((1 : Int))), P.app [] x)) (P.either (fun (z : Int × List (Int × Int)) => P.cond (P.cut z.fst (P.len z.snd) (P.len z.snd)) (P.cond (P.cut ((0 : Int)) z.fst (P.len (P.fill z.snd z.fst (P.sub (P.len z.snd) z.fst) ((0 : Int), (0 : Int))))) (P.bind (sortF (P.sub_ (P.fill z.snd z.fst (P.sub (P.len z.snd) z.fst) ((0 : Int), (0 : Int))) ((0 : Int)) z.fst)) fun (ys : List (Int × Int)) => P.cond (P.ilt (P.len ys) ((2 : Int))) (some ys) (P.bind (P.iter k (fun (y : Int × List (Int × Int)) => P.cond (P.ilt y.fst (P.len y.snd)) (P.cond (P.inb y.fst (P.len y.snd)) (P.cond (P.inb (P.wrap IntKind.i64 (P.sub y.fst ((1 : Int)))) (P.len y.snd)) (P.cond (P.and (P.ieq (P.get y.snd y.fst ((0 : Int), (0 : Int))).fst (P.get y.snd (P.wrap IntKind.i64 (P.sub y.fst ((1 : Int)))) ((0 : Int), (0 : Int))).fst) (P.ieq (P.get y.snd y.fst ((0 : Int), (0 : Int))).snd (P.get y.snd (P.wrap IntKind.i64 (P.sub y.fst ((1 : Int)))) ((0 : Int), (0 : Int))).snd)) (P.cond (P.cut y.fst (P.len y.snd) (P.len y.snd)) (P.bind (P.iter k (fun (y_1 : Int × Int × List (Int × Int)) => P.cond (P.ilt y_1.snd.fst (P.sub (P.len y.snd) y.fst)) (P.cond (P.inb y_1.snd.fst (P.sub (P.len y.snd) y.fst)) (P.cond (P.inb (P.wrap IntKind.i64 (P.sub y_1.snd.fst ((1 : Int)))) (P.sub (P.len y.snd) y.fst)) (P.cond (P.not (P.and (P.ieq (P.get y_1.snd.snd (P.add y.fst y_1.snd.fst) ((0 : Int), (0 : Int))).fst (P.get y_1.snd.snd (P.add y.fst (P.wrap IntKind.i64 (P.sub y_1.snd.fst ((1 : Int))))) ((0 : Int), (0 : Int))).fst) (P.ieq (P.get y_1.snd.snd (P.add y.fst y_1.snd.fst) ((0 : Int), (0 : Int))).snd (P.get y_1.snd.snd (P.add y.fst (P.wrap IntKind.i64 (P.sub y_1.snd.fst ((1 : Int))))) ((0 : Int), (0 : Int))).snd))) (P.cond (P.inb y_1.snd.fst (P.sub (P.len y.snd) y.fst)) (P.cond (P.inb y_1.fst (P.len y_1.snd.snd)) (some (Sum.inl (P.wrap IntKind.i64 (P.add y_1.fst ((1 : Int))), P.wrap IntKind.i64 (P.add y_1.snd.fst ((1 : Int))), P.set y_1.snd.snd y_1.fst (P.get y_1.snd.snd (P.add y.fst y_1.snd.fst) ((0 : Int), (0 : Int)))))) none) none) (some (Sum.inl (y_1.fst, P.wrap IntKind.i64 (P.add y_1.snd.fst ((1 : Int))), y_1.snd.snd)))) none) none) (some (Sum.inr (Sum.inl (y_1.fst, y_1.snd.snd))))) (y.fst, (1 : Int), y.snd)) (P.either (fun (z : Int × List (Int × Int)) => P.cond (P.cut z.fst (P.len z.snd) (P.len z.snd)) (P.cond (P.cut ((0 : Int)) z.fst (P.len (P.fill z.snd z.fst (P.sub (P.len z.snd) z.fst) ((0 : Int), (0 : Int))))) (some (Sum.inr (Sum.inr (P.sub_ (P.fill z.snd z.fst (P.sub (P.len z.snd) z.fst) ((0 : Int), (0 : Int))) ((0 : Int)) z.fst)))) none) none) fun (r : Int × List (Int × Int) ⊕ List (Int × Int) ⊕ List (Int × Int)) => some r)) none) (some (Sum.inl (P.wrap IntKind.i64 (P.add y.fst ((1 : Int))), y.snd)))) none) none) (some (Sum.inr (Sum.inl y.snd)))) ((1 : Int), ys)) (P.either (fun (z : List (Int × Int)) => some z) fun (r : List (Int × Int)) => some r))) none) none) fun (r : List (Int × Int)) => some r))) fun (r : List (Int × Int)) => some r)) none))
theorem atoms_Norm_eq (k : Nat) (x : (Ty.D (.slice T_api_Atom))) : evFn { T := T, specs := [(90, ⟨T_api_Atom, .bool, atoms_Norm_1 k⟩), (93, ⟨(.pair T_api_Atom T_api_Atom), (.int .i64), atoms_Compare k⟩)], codes := codes, k := k, inpl := [(92, ⟨T_api_Atom, 93, sortF⟩)], ins := [(88, T_api_Field, 48)], calm := [58] } 6 Try.f67 [] (.slice T_api_Atom) (.slice T_api_Atom) x = atoms_Norm k x := by kernel_rfl
theorem atoms_Norm_spec (k : Nat) : SpecOk Try.prog GG 67 ⟨(.slice T_api_Atom), (.slice T_api_Atom), atoms_Norm k⟩ :=
  fn_spec (envOk (E := { T := T, specs := [(90, ⟨T_api_Atom, .bool, atoms_Norm_1 k⟩), (93, ⟨(.pair T_api_Atom T_api_Atom), (.int .i64), atoms_Compare k⟩)], codes := codes, k := k, inpl := [(92, ⟨T_api_Atom, 93, sortF⟩)], ins := [(88, T_api_Field, 48)], calm := [58] }) tabOk (.cons (atoms_Norm_1_spec k) f90_at f90_ok <| .cons (atoms_Compare_spec k) f93_at f93_ok <| .nil) codesOk mixedOk (fun _ _ _ _ => trivial) (hi := inplOk) (hj := insOk)) f67_at (fun x => (atoms_Norm_eq k x).symm)
noncomputable def slices_Equal_api_Atom_api_Atom : (k : Nat) → (Ty.D (.pair (.slice T_api_Atom) (.slice T_api_Atom))) → Option (Ty.D .bool) := fun (k : Nat) (x : (T_api_Atom.slice.pair T_api_Atom.slice).D) => P.cond (P.not (P.ieq (P.len x.fst) (P.len x.snd))) (some false) (P.bind (P.iter k (fun (y : Int) => P.cond (P.ilt y (P.len x.fst)) (P.cond (P.inb y (P.len x.fst)) (P.cond (P.inb y (P.len x.snd)) (P.cond (P.not (P.and (P.ieq (P.get x.fst y ((0 : Int), (0 : Int))).fst (P.get x.snd y ((0 : Int), (0 : Int))).fst) (P.ieq (P.get x.fst y ((0 : Int), (0 : Int))).snd (P.get x.snd y ((0 : Int), (0 : Int))).snd))) (some (Sum.inr (Sum.inr false))) (some (Sum.inl (P.wrap IntKind.i64 (P.add y ((1 : Int))))))) none) none) (some (Sum.inr (Sum.inl PUnit.unit)))) ((0 : Int))) (P.either (fun (z : PUnit) => some true) fun (r : Bool) => some r))
theorem slices_Equal_api_Atom_api_Atom_eq (k : Nat) (x : (Ty.D (.pair (.slice T_api_Atom) (.slice T_api_Atom)))) : evFn { T := T, specs := [], codes := codes, k := k, inpl := [(92, ⟨T_api_Atom, 93, sortF⟩)], ins := [(88, T_api_Field, 48)], calm := [58] } 6 Try.f83 [(4, ⟨[.var 13 (.d (.int .i64))], [], (some (0, []))⟩)] (.pair (.slice T_api_Atom) (.slice T_api_Atom)) .bool x = slices_Equal_api_Atom_api_Atom k x := by kernel_rfl
theorem slices_Equal_api_Atom_api_Atom_spec (k : Nat) : SpecOk Try.prog GG 83 ⟨(.pair (.slice T_api_Atom) (.slice T_api_Atom)), .bool, slices_Equal_api_Atom_api_Atom k⟩ :=
  fn_spec (envOk (E := { T := T, specs := [], codes := codes, k := k, inpl := [(92, ⟨T_api_Atom, 93, sortF⟩)], ins := [(88, T_api_Field, 48)], calm := [58] }) tabOk (.nil) codesOk mixedOk (fun _ _ _ _ => trivial) (hi := inplOk) (hj := insOk)) f83_at (fun x => (slices_Equal_api_Atom_api_Atom_eq k x).symm)
noncomputable def atoms_May : (k : Nat) → (Ty.D (.slice T_api_Atom)) → Option (Ty.D .bool) := fun (k : Nat) (x : T_api_Atom.slice.D) => P.bind (atoms_Norm k x) fun (r : List (Int × Int)) => P.bind (slices_Equal_api_Atom_api_Atom k (x, r)) fun (r : Bool) => some r
theorem atoms_May_eq (k : Nat) (x : (Ty.D (.slice T_api_Atom))) : evFn { T := T, specs := [(67, ⟨(.slice T_api_Atom), (.slice T_api_Atom), atoms_Norm k⟩), (83, ⟨(.pair (.slice T_api_Atom) (.slice T_api_Atom)), .bool, slices_Equal_api_Atom_api_Atom k⟩)], codes := codes, k := k, inpl := [(92, ⟨T_api_Atom, 93, sortF⟩)], ins := [(88, T_api_Field, 48)], calm := [58] } 6 Try.f57 [] (.slice T_api_Atom) .bool x = atoms_May k x := by kernel_rfl
theorem atoms_May_spec (k : Nat) : SpecOk Try.prog GG 57 ⟨(.slice T_api_Atom), .bool, atoms_May k⟩ :=
  fn_spec (envOk (E := { T := T, specs := [(67, ⟨(.slice T_api_Atom), (.slice T_api_Atom), atoms_Norm k⟩), (83, ⟨(.pair (.slice T_api_Atom) (.slice T_api_Atom)), .bool, slices_Equal_api_Atom_api_Atom k⟩)], codes := codes, k := k, inpl := [(92, ⟨T_api_Atom, 93, sortF⟩)], ins := [(88, T_api_Field, 48)], calm := [58] }) tabOk (.cons (atoms_Norm_spec k) f67_at f67_ok <| .cons (slices_Equal_api_Atom_api_Atom_spec k) f83_at f83_ok <| .nil) codesOk mixedOk (fun _ _ _ _ => trivial) (hi := inplOk) (hj := insOk)) f57_at (fun x => (atoms_May_eq k x).symm)
noncomputable def object_May : (k : Nat) → (Ty.D T_api_Shape) → Option (Ty.D .bool) := fun (k : Nat) (x : T_api_Shape.D) => P.bind (P.iter k (fun (y : Int) => P.cond (P.ilt y (P.len x.fst)) (P.cond (P.inb y (P.len x.fst)) (P.bind (atoms_May k (P.get x.fst y ((ByteArray.mk #[]), false, [])).snd.snd) fun (r : Bool) => P.cond (P.not r) (some (Sum.inr (Sum.inr false))) (P.cond (P.ilt ((0 : Int)) y) (P.cond (P.inb (P.wrap IntKind.i64 (P.sub y ((1 : Int)))) (P.len x.fst)) (P.cond (P.not (P.slt (P.get x.fst (P.wrap IntKind.i64 (P.sub y ((1 : Int)))) ((ByteArray.mk #[]), false, [])).fst (P.get x.fst y ((ByteArray.mk #[]), false, [])).fst)) (some (Sum.inr (Sum.inr false))) (some (Sum.inl (P.wrap IntKind.i64 (P.add y ((1 : Int))))))) none) (some (Sum.inl (P.wrap IntKind.i64 (P.add y ((1 : Int)))))))) none) (some (Sum.inr (Sum.inl PUnit.unit)))) ((0 : Int))) (P.either (fun (z : PUnit) => P.bind (atoms_May k x.snd) fun (r : Bool) => some r) fun (r : Bool) => some r)
theorem object_May_eq (k : Nat) (x : (Ty.D T_api_Shape)) : evFn { T := T, specs := [(57, ⟨(.slice T_api_Atom), .bool, atoms_May k⟩)], codes := codes, k := k, inpl := [(92, ⟨T_api_Atom, 93, sortF⟩)], ins := [(88, T_api_Field, 48)], calm := [58] } 6 Try.f18 [(2, ⟨[.var 8 (.d (.int .i64))], [], (some (0, []))⟩)] T_api_Shape .bool x = object_May k x := by kernel_rfl
theorem object_May_spec (k : Nat) : SpecOk Try.prog GG 18 ⟨T_api_Shape, .bool, object_May k⟩ :=
  fn_spec (envOk (E := { T := T, specs := [(57, ⟨(.slice T_api_Atom), .bool, atoms_May k⟩)], codes := codes, k := k, inpl := [(92, ⟨T_api_Atom, 93, sortF⟩)], ins := [(88, T_api_Field, 48)], calm := [58] }) tabOk (.cons (atoms_May_spec k) f57_at f57_ok <| .nil) codesOk mixedOk (fun _ _ _ _ => trivial) (hi := inplOk) (hj := insOk)) f18_at (fun x => (object_May_eq k x).symm)
noncomputable def ref06_Same : (k : Nat) → (Ty.D (.pair (.slice T_api_Atom) (.slice T_api_Atom))) → Option (Ty.D .bool) := fun (k : Nat) (x : (T_api_Atom.slice.pair T_api_Atom.slice).D) => P.cond (P.not (P.ieq (P.len x.fst) (P.len x.snd))) (some false) (P.bind (P.iter k (fun (y : Int) => P.cond (P.ilt y (P.len x.fst)) (P.cond (P.inb y (P.len x.fst)) (P.cond (P.inb y (P.len x.snd)) (P.cond (P.not (P.and (P.ieq (P.get x.fst y ((0 : Int), (0 : Int))).fst (P.get x.snd y ((0 : Int), (0 : Int))).fst) (P.ieq (P.get x.fst y ((0 : Int), (0 : Int))).snd (P.get x.snd y ((0 : Int), (0 : Int))).snd))) (some (Sum.inr (Sum.inr false))) (some (Sum.inl (P.wrap IntKind.i64 (P.add y ((1 : Int))))))) none) none) (some (Sum.inr (Sum.inl PUnit.unit)))) ((0 : Int))) (P.either (fun (z : PUnit) => some true) fun (r : Bool) => some r))
theorem ref06_Same_eq (k : Nat) (x : (Ty.D (.pair (.slice T_api_Atom) (.slice T_api_Atom)))) : evFn { T := T, specs := [], codes := codes, k := k, inpl := [(92, ⟨T_api_Atom, 93, sortF⟩)], ins := [(88, T_api_Field, 48)], calm := [58] } 6 Try.f20 [(4, ⟨[.var 5 (.d (.int .i64))], [], (some (0, []))⟩)] (.pair (.slice T_api_Atom) (.slice T_api_Atom)) .bool x = ref06_Same k x := by kernel_rfl
theorem ref06_Same_spec (k : Nat) : SpecOk Try.prog GG 20 ⟨(.pair (.slice T_api_Atom) (.slice T_api_Atom)), .bool, ref06_Same k⟩ :=
  fn_spec (envOk (E := { T := T, specs := [], codes := codes, k := k, inpl := [(92, ⟨T_api_Atom, 93, sortF⟩)], ins := [(88, T_api_Field, 48)], calm := [58] }) tabOk (.nil) codesOk mixedOk (fun _ _ _ _ => trivial) (hi := inplOk) (hj := insOk)) f20_at (fun x => (ref06_Same_eq k x).symm)
noncomputable def slices_Concat_api_Atom_api_Atom : (k : Nat) → (Ty.D (.slice (.slice T_api_Atom))) → Option (Ty.D (.slice T_api_Atom)) := fun (k : Nat) (x : T_api_Atom.slice.slice.D) => P.bind (P.iter k (fun (y : Int × Int) => P.cond (P.ilt y.snd (P.len x)) (P.cond (P.inb y.snd (P.len x)) (P.cond (P.ilt (P.wrap IntKind.i64 (P.add y.fst (P.len (P.get x y.snd [])))) ((0 : Int))) none (some (Sum.inl (P.wrap IntKind.i64 (P.add y.fst (P.len (P.get x y.snd []))), P.wrap IntKind.i64 (P.add y.snd ((1 : Int))))))) none) (some (Sum.inr (Sum.inl y.fst)))) ((0 : Int), (0 : Int))) (P.either (fun (z : Int) => P.cond (P.ilt z ((0 : Int))) none (P.cond (P.ilt ((0 : Int)) (P.wrap IntKind.i64 (P.sub z (P.wrap IntKind.i64 (P.sub ((0 : Int)) ((0 : Int))))))) (P.cond (P.cut ((0 : Int)) ((0 : Int)) ((0 : Int))) (P.cond (P.ilt ((0 : Int)) (P.wrap IntKind.i64 (P.sub z (P.wrap IntKind.i64 (P.sub ((0 : Int)) ((0 : Int))))))) (P.cond (P.room (P.wrap IntKind.i64 (P.sub z (P.wrap IntKind.i64 (P.sub ((0 : Int)) ((0 : Int)))))) 16) (P.cond (P.cut ((0 : Int)) ((0 : Int)) (P.len (P.rep (P.wrap IntKind.i64 (P.sub z (P.wrap IntKind.i64 (P.sub ((0 : Int)) ((0 : Int)))))) ((0 : Int), (0 : Int))))) (P.bind (P.iter k (fun (y : List (Int × Int) × Int) => P.cond (P.ilt y.snd (P.len x)) (P.cond (P.inb y.snd (P.len x)) (P.cond (P.room (P.add (P.len y.fst) (P.len (P.get x y.snd []))) 16) (some (Sum.inl (P.app y.fst (P.get x y.snd []), P.wrap IntKind.i64 (P.add y.snd ((1 : Int)))))) none) none) (some (Sum.inr (Sum.inl y.fst)))) (P.sub_ (P.rep (P.wrap IntKind.i64 (P.sub z (P.wrap IntKind.i64 (P.sub ((0 : Int)) ((0 : Int)))))) ((0 : Int), (0 : Int))) ((0 : Int)) ((0 : Int)), (0 : Int))) (P.either (fun (z : List (Int × Int)) => some z) fun (r : List (Int × Int)) => some r)) none) none) none) none) (P.bind (P.iter k (fun (y : List (Int × Int) × Int) => P.cond (P.ilt y.snd (P.len x)) (P.cond (P.inb y.snd (P.len x)) (P.cond (P.room (P.add (P.len y.fst) (P.len (P.get x y.snd []))) 16) (some (Sum.inl (P.app y.fst (P.get x y.snd []), P.wrap IntKind.i64 (P.add y.snd ((1 : Int)))))) none) none) (some (Sum.inr (Sum.inl y.fst)))) ([], (0 : Int))) (P.either (fun (z : List (Int × Int)) => some z) fun (r : List (Int × Int)) => some r)))) fun (r : List (Int × Int)) => some r)
theorem slices_Concat_api_Atom_api_Atom_eq (k : Nat) (x : (Ty.D (.slice (.slice T_api_Atom)))) : evFn { T := T, specs := [], codes := codes, k := k, inpl := [(92, ⟨T_api_Atom, 93, sortF⟩)], ins := [(88, T_api_Field, 48)], calm := [58] } 6 Try.f84 [(3, ⟨[.var 3 (.d (.int .i64)), .var 11 (.d (.int .i64))], [], (some (0, [.var 3 (.d (.int .i64))]))⟩), (11, ⟨[.var 6 (.o (.st (.pair (.int .i64) (.int .i64)))), .var 27 (.d (.int .i64))], [], (some (2, [.var 6 (.o (.st (.pair (.int .i64) (.int .i64))))]))⟩)] (.slice (.slice T_api_Atom)) (.slice T_api_Atom) x = slices_Concat_api_Atom_api_Atom k x := by kernel_rfl
theorem slices_Concat_api_Atom_api_Atom_spec (k : Nat) : SpecOk Try.prog GG 84 ⟨(.slice (.slice T_api_Atom)), (.slice T_api_Atom), slices_Concat_api_Atom_api_Atom k⟩ :=
  fn_spec (envOk (E := { T := T, specs := [], codes := codes, k := k, inpl := [(92, ⟨T_api_Atom, 93, sortF⟩)], ins := [(88, T_api_Field, 48)], calm := [58] }) tabOk (.nil) codesOk mixedOk (fun _ _ _ _ => trivial) (hi := inplOk) (hj := insOk)) f84_at (fun x => (slices_Concat_api_Atom_api_Atom_eq k x).symm)
noncomputable def atoms_Union : (k : Nat) → (Ty.D (.pair (.slice T_api_Atom) (.slice T_api_Atom))) → Option (Ty.D (.slice T_api_Atom)) := fun (k : Nat) (x : (T_api_Atom.slice.pair T_api_Atom.slice).D) => P.bind (slices_Concat_api_Atom_api_Atom k [x.fst, x.snd]) fun (r : List (Int × Int)) => P.bind (atoms_Norm k r) fun (r : List (Int × Int)) => some r
theorem atoms_Union_eq (k : Nat) (x : (Ty.D (.pair (.slice T_api_Atom) (.slice T_api_Atom)))) : evFn { T := T, specs := [(67, ⟨(.slice T_api_Atom), (.slice T_api_Atom), atoms_Norm k⟩), (84, ⟨(.slice (.slice T_api_Atom)), (.slice T_api_Atom), slices_Concat_api_Atom_api_Atom k⟩)], codes := codes, k := k, inpl := [(92, ⟨T_api_Atom, 93, sortF⟩)], ins := [(88, T_api_Field, 48)], calm := [58] } 6 Try.f59 [] (.pair (.slice T_api_Atom) (.slice T_api_Atom)) (.slice T_api_Atom) x = atoms_Union k x := by kernel_rfl
theorem atoms_Union_spec (k : Nat) : SpecOk Try.prog GG 59 ⟨(.pair (.slice T_api_Atom) (.slice T_api_Atom)), (.slice T_api_Atom), atoms_Union k⟩ :=
  fn_spec (envOk (E := { T := T, specs := [(67, ⟨(.slice T_api_Atom), (.slice T_api_Atom), atoms_Norm k⟩), (84, ⟨(.slice (.slice T_api_Atom)), (.slice T_api_Atom), slices_Concat_api_Atom_api_Atom k⟩)], codes := codes, k := k, inpl := [(92, ⟨T_api_Atom, 93, sortF⟩)], ins := [(88, T_api_Field, 48)], calm := [58] }) tabOk (.cons (atoms_Norm_spec k) f67_at f67_ok <| .cons (slices_Concat_api_Atom_api_Atom_spec k) f84_at f84_ok <| .nil) codesOk mixedOk (fun _ _ _ _ => trivial) (hi := inplOk) (hj := insOk)) f59_at (fun x => (atoms_Union_eq k x).symm)
noncomputable def object_find : (k : Nat) → (Ty.D (.pair (.slice T_api_Field) .str)) → Option (Ty.D (.pair (.int .i64) .bool)) := fun (k : Nat) (x : (T_api_Field.slice.pair Ty.str).D) => P.bind (P.iter k (fun (y : Int × Int) => P.cond (P.ilt y.fst y.snd) (P.cond (P.ile ((0 : Int)) ((1 : Int))) (P.cond (P.inb (P.wrap IntKind.i64 (P.shrk IntKind.u64 (P.wrap IntKind.u64 (P.wrap IntKind.i64 (P.add y.fst y.snd))) ((1 : Int)))) (P.len x.fst)) (P.bind (strings_Compare k ((P.get x.fst (P.wrap IntKind.i64 (P.shrk IntKind.u64 (P.wrap IntKind.u64 (P.wrap IntKind.i64 (P.add y.fst y.snd))) ((1 : Int)))) ((ByteArray.mk #[]), false, [])).fst, x.snd)) fun (r : Int) => P.cond (P.ilt r ((0 : Int))) (some (Sum.inl (P.wrap IntKind.i64 (P.add (P.wrap IntKind.i64 (P.shrk IntKind.u64 (P.wrap IntKind.u64 (P.wrap IntKind.i64 (P.add y.fst y.snd))) ((1 : Int)))) ((1 : Int))), y.snd))) (some (Sum.inl (y.fst, P.wrap IntKind.i64 (P.shrk IntKind.u64 (P.wrap IntKind.u64 (P.wrap IntKind.i64 (P.add y.fst y.snd))) ((1 : Int))))))) none) none) (some (Sum.inr (Sum.inl y.fst)))) ((0 : Int), P.len x.fst)) (P.either (fun (z : Int) => P.cond (P.ilt z (P.len x.fst)) (P.cond (P.inb z (P.len x.fst)) (P.bind (strings_Compare k ((P.get x.fst z ((ByteArray.mk #[]), false, [])).fst, x.snd)) fun (r : Int) => some (z, P.ieq r ((0 : Int)))) none) (some (z, false))) fun (r : Int × Bool) => some r)
theorem object_find_eq (k : Nat) (x : (Ty.D (.pair (.slice T_api_Field) .str))) : evFn { T := T, specs := [(87, ⟨(.pair .str .str), (.int .i64), strings_Compare k⟩)], codes := codes, k := k, inpl := [(92, ⟨T_api_Atom, 93, sortF⟩)], ins := [(88, T_api_Field, 48)], calm := [58] } 6 Try.f60 [] (.pair (.slice T_api_Field) .str) (.pair (.int .i64) .bool) x = object_find k x := by kernel_rfl
theorem object_find_spec (k : Nat) : SpecOk Try.prog GG 60 ⟨(.pair (.slice T_api_Field) .str), (.pair (.int .i64) .bool), object_find k⟩ :=
  fn_spec (envOk (E := { T := T, specs := [(87, ⟨(.pair .str .str), (.int .i64), strings_Compare k⟩)], codes := codes, k := k, inpl := [(92, ⟨T_api_Atom, 93, sortF⟩)], ins := [(88, T_api_Field, 48)], calm := [58] }) tabOk (.cons (strings_Compare_spec k) f87_at f87_ok <| .nil) codesOk mixedOk (fun _ _ _ _ => trivial) (hi := inplOk) (hj := insOk)) f60_at (fun x => (object_find_eq k x).symm)
noncomputable def object_Join : (k : Nat) → (Ty.D (.pair T_api_Shape T_api_Shape)) → Option (Ty.D T_api_Shape) := fun (k : Nat) (x : (T_api_Shape.pair T_api_Shape).D) => P.bind (object_May k x.fst) fun (r : Bool) => P.cond (P.not r) (some ([], [])) (P.bind (object_May k x.snd) fun (r : Bool) => P.cond (P.not r) (some ([], [])) (P.bind (slices_Clone_api_Atom_api_Atom k x.fst.snd) fun (r : List (Int × Int)) => P.bind (P.iter k (fun (y : Int × List (ByteArray × Bool × List (Int × Int)) × List (Int × Int)) => P.cond (P.ilt y.fst (P.len x.fst.fst)) (P.cond (P.inb y.fst (P.len x.fst.fst)) (P.bind (slices_Clone_api_Atom_api_Atom k (P.get x.fst.fst y.fst ((ByteArray.mk #[]), false, [])).snd.snd) fun (r : List (Int × Int)) => P.cond (P.room (P.add (P.len y.snd.fst) (P.len [((P.get x.fst.fst y.fst ((ByteArray.mk #[]), false, [])).fst, (P.get x.fst.fst y.fst ((ByteArray.mk #[]), false, [])).snd.fst, r)])) 48) (some (Sum.inl (P.wrap IntKind.i64 (P.add y.fst ((1 : Int))), P.app y.snd.fst [((P.get x.fst.fst y.fst ((ByteArray.mk #[]), false, [])).fst, (P.get x.fst.fst y.fst ((ByteArray.mk #[]), false, [])).snd.fst, r)], y.snd.snd))) none) none) (some (Sum.inr (Sum.inl (y.snd.fst, y.snd.snd))))) ((0 : Int), [], r)) (P.either (fun (z : List (ByteArray × Bool × List (Int × Int)) × List (Int × Int)) => P.bind (atoms_Union k (x.fst.snd, x.snd.snd)) fun (r : List (Int × Int)) => P.bind (P.iter k (fun (y : Int × List (ByteArray × Bool × List (Int × Int))) => P.cond (P.ilt y.fst (P.len z.fst)) (P.cond (P.inb y.fst (P.len y.snd)) (P.bind (object_find k (x.snd.fst, (P.get y.snd y.fst ((ByteArray.mk #[]), false, [])).fst)) fun (r : Int × Bool) => P.cond (P.get y.snd y.fst ((ByteArray.mk #[]), false, [])).snd.fst (P.cond (P.inb y.fst (P.len y.snd)) (some (Sum.inl (P.wrap IntKind.i64 (P.add y.fst ((1 : Int))), P.set y.snd y.fst ((P.get y.snd y.fst ((ByteArray.mk #[]), false, [])).fst, r.snd, (P.get y.snd y.fst ((ByteArray.mk #[]), false, [])).snd.snd)))) none) (P.cond (P.inb y.fst (P.len y.snd)) (some (Sum.inl (P.wrap IntKind.i64 (P.add y.fst ((1 : Int))), P.set y.snd y.fst ((P.get y.snd y.fst ((ByteArray.mk #[]), false, [])).fst, false, (P.get y.snd y.fst ((ByteArray.mk #[]), false, [])).snd.snd)))) none)) none) (some (Sum.inr (Sum.inl y.snd)))) ((0 : Int), z.fst)) (P.either (fun (z : List (ByteArray × Bool × List (Int × Int))) => P.bind (P.iter k (fun (y : Int × List (ByteArray × Bool × List (Int × Int)) × List (Int × Int)) => P.cond (P.ilt y.fst (P.len x.snd.fst)) (P.cond (P.inb y.fst (P.len x.snd.fst)) (P.bind (P.iter k (fun (y_1 : Int) => P.cond (P.ilt y_1 (P.len y.snd.fst)) (P.cond (P.inb y_1 (P.len y.snd.fst)) (P.cond (P.seq (P.get y.snd.fst y_1 ((ByteArray.mk #[]), false, [])).fst (P.get x.snd.fst y.fst ((ByteArray.mk #[]), false, [])).fst) (P.map (fun (r : Int × List (ByteArray × Bool × List (Int × Int)) × List (Int × Int) ⊕ List (ByteArray × Bool × List (Int × Int)) × List (Int × Int) ⊕ List (ByteArray × Bool × List (Int × Int)) × List (Int × Int)) => Sum.inr (Sum.inr r)) (P.cond (P.ilt y_1 ((0 : Int))) (P.bind (atoms_Union k ([], (P.get x.snd.fst y.fst ((ByteArray.mk #[]), false, [])).snd.snd)) fun (r : List (Int × Int)) => P.bind (object_find k (y.snd.fst, (P.get x.snd.fst y.fst ((ByteArray.mk #[]), false, [])).fst)) fun (r_1 : Int × Bool) => P.cond r_1.snd (P.cond (P.inb r_1.fst (P.len y.snd.fst)) (some (Sum.inl (P.wrap IntKind.i64 (P.add y.fst ((1 : Int))), P.set y.snd.fst r_1.fst ((P.get x.snd.fst y.fst ((ByteArray.mk #[]), false, [])).fst, false, r), y.snd.snd))) none) (P.cond (P.ilt ((0 : Int)) (P.len [((P.get x.snd.fst y.fst ((ByteArray.mk #[]), false, [])).fst, false, r)])) (P.cond (P.cut ((0 : Int)) r_1.fst (P.len y.snd.fst)) (P.cond (P.room (P.add (P.len y.snd.fst) (P.len [((P.get x.snd.fst y.fst ((ByteArray.mk #[]), false, [])).fst, false, r)])) 48) (some (Sum.inl (P.wrap IntKind.i64 (P.add y.fst ((1 : Int))), P.insAt y.snd.fst r_1.fst [((P.get x.snd.fst y.fst ((ByteArray.mk #[]), false, [])).fst, false, r)], y.snd.snd))) none) none) none)) (P.cond (P.inb y_1 (P.len y.snd.fst)) (P.bind (slices_Clone_api_Atom_api_Atom k (P.get y.snd.fst y_1 ((ByteArray.mk #[]), false, [])).snd.snd) fun (r : List (Int × Int)) => P.cond (P.get y.snd.fst y_1 ((ByteArray.mk #[]), false, [])).snd.fst (P.bind (atoms_Union k (r, (P.get x.snd.fst y.fst ((ByteArray.mk #[]), false, [])).snd.snd)) fun (r : List (Int × Int)) => P.bind (object_find k (y.snd.fst, (P.get x.snd.fst y.fst ((ByteArray.mk #[]), false, [])).fst)) fun (r_1 : Int × Bool) => P.cond r_1.snd (P.cond (P.inb r_1.fst (P.len y.snd.fst)) (some (Sum.inl (P.wrap IntKind.i64 (P.add y.fst ((1 : Int))), P.set y.snd.fst r_1.fst ((P.get x.snd.fst y.fst ((ByteArray.mk #[]), false, [])).fst, (P.get x.snd.fst y.fst ((ByteArray.mk #[]), false, [])).snd.fst, r), y.snd.snd))) none) (P.cond (P.ilt ((0 : Int)) (P.len [((P.get x.snd.fst y.fst ((ByteArray.mk #[]), false, [])).fst, (P.get x.snd.fst y.fst ((ByteArray.mk #[]), false, [])).snd.fst, r)])) (P.cond (P.cut ((0 : Int)) r_1.fst (P.len y.snd.fst)) (P.cond (P.room (P.add (P.len y.snd.fst) (P.len [((P.get x.snd.fst y.fst ((ByteArray.mk #[]), false, [])).fst, (P.get x.snd.fst y.fst ((ByteArray.mk #[]), false, [])).snd.fst, r)])) 48) (some (Sum.inl (P.wrap IntKind.i64 (P.add y.fst ((1 : Int))), P.insAt y.snd.fst r_1.fst [((P.get x.snd.fst y.fst ((ByteArray.mk #[]), false, [])).fst, (P.get x.snd.fst y.fst ((ByteArray.mk #[]), false, [])).snd.fst, r)], y.snd.snd))) none) none) none)) (P.bind (atoms_Union k (r, (P.get x.snd.fst y.fst ((ByteArray.mk #[]), false, [])).snd.snd)) fun (r : List (Int × Int)) => P.bind (object_find k (y.snd.fst, (P.get x.snd.fst y.fst ((ByteArray.mk #[]), false, [])).fst)) fun (r_1 : Int × Bool) => P.cond r_1.snd (P.cond (P.inb r_1.fst (P.len y.snd.fst)) (some (Sum.inl (P.wrap IntKind.i64 (P.add y.fst ((1 : Int))), P.set y.snd.fst r_1.fst ((P.get x.snd.fst y.fst ((ByteArray.mk #[]), false, [])).fst, false, r), y.snd.snd))) none) (P.cond (P.ilt ((0 : Int)) (P.len [((P.get x.snd.fst y.fst ((ByteArray.mk #[]), false, [])).fst, false, r)])) (P.cond (P.cut ((0 : Int)) r_1.fst (P.len y.snd.fst)) (P.cond (P.room (P.add (P.len y.snd.fst) (P.len [((P.get x.snd.fst y.fst ((ByteArray.mk #[]), false, [])).fst, false, r)])) 48) (some (Sum.inl (P.wrap IntKind.i64 (P.add y.fst ((1 : Int))), P.insAt y.snd.fst r_1.fst [((P.get x.snd.fst y.fst ((ByteArray.mk #[]), false, [])).fst, false, r)], y.snd.snd))) none) none) none))) none))) (some (Sum.inl (P.wrap IntKind.i64 (P.add y_1 ((1 : Int))))))) none) (some (Sum.inr (Sum.inl PUnit.unit)))) ((0 : Int))) (P.either (fun (z : PUnit) => P.cond (P.ilt ((-1 : Int)) ((0 : Int))) (P.bind (atoms_Union k ([], (P.get x.snd.fst y.fst ((ByteArray.mk #[]), false, [])).snd.snd)) fun (r : List (Int × Int)) => P.bind (object_find k (y.snd.fst, (P.get x.snd.fst y.fst ((ByteArray.mk #[]), false, [])).fst)) fun (r_1 : Int × Bool) => P.cond r_1.snd (P.cond (P.inb r_1.fst (P.len y.snd.fst)) (some (Sum.inl (P.wrap IntKind.i64 (P.add y.fst ((1 : Int))), P.set y.snd.fst r_1.fst ((P.get x.snd.fst y.fst ((ByteArray.mk #[]), false, [])).fst, false, r), y.snd.snd))) none) (P.cond (P.ilt ((0 : Int)) (P.len [((P.get x.snd.fst y.fst ((ByteArray.mk #[]), false, [])).fst, false, r)])) (P.cond (P.cut ((0 : Int)) r_1.fst (P.len y.snd.fst)) (P.cond (P.room (P.add (P.len y.snd.fst) (P.len [((P.get x.snd.fst y.fst ((ByteArray.mk #[]), false, [])).fst, false, r)])) 48) (some (Sum.inl (P.wrap IntKind.i64 (P.add y.fst ((1 : Int))), P.insAt y.snd.fst r_1.fst [((P.get x.snd.fst y.fst ((ByteArray.mk #[]), false, [])).fst, false, r)], y.snd.snd))) none) none) none)) (P.cond (P.inb ((-1 : Int)) (P.len y.snd.fst)) (P.bind (slices_Clone_api_Atom_api_Atom k (P.get y.snd.fst ((-1 : Int)) ((ByteArray.mk #[]), false, [])).snd.snd) fun (r : List (Int × Int)) => P.cond (P.get y.snd.fst ((-1 : Int)) ((ByteArray.mk #[]), false, [])).snd.fst (P.bind (atoms_Union k (r, (P.get x.snd.fst y.fst ((ByteArray.mk #[]), false, [])).snd.snd)) fun (r : List (Int × Int)) => P.bind (object_find k (y.snd.fst, (P.get x.snd.fst y.fst ((ByteArray.mk #[]), false, [])).fst)) fun (r_1 : Int × Bool) => P.cond r_1.snd (P.cond (P.inb r_1.fst (P.len y.snd.fst)) (some (Sum.inl (P.wrap IntKind.i64 (P.add y.fst ((1 : Int))), P.set y.snd.fst r_1.fst ((P.get x.snd.fst y.fst ((ByteArray.mk #[]), false, [])).fst, (P.get x.snd.fst y.fst ((ByteArray.mk #[]), false, [])).snd.fst, r), y.snd.snd))) none) (P.cond (P.ilt ((0 : Int)) (P.len [((P.get x.snd.fst y.fst ((ByteArray.mk #[]), false, [])).fst, (P.get x.snd.fst y.fst ((ByteArray.mk #[]), false, [])).snd.fst, r)])) (P.cond (P.cut ((0 : Int)) r_1.fst (P.len y.snd.fst)) (P.cond (P.room (P.add (P.len y.snd.fst) (P.len [((P.get x.snd.fst y.fst ((ByteArray.mk #[]), false, [])).fst, (P.get x.snd.fst y.fst ((ByteArray.mk #[]), false, [])).snd.fst, r)])) 48) (some (Sum.inl (P.wrap IntKind.i64 (P.add y.fst ((1 : Int))), P.insAt y.snd.fst r_1.fst [((P.get x.snd.fst y.fst ((ByteArray.mk #[]), false, [])).fst, (P.get x.snd.fst y.fst ((ByteArray.mk #[]), false, [])).snd.fst, r)], y.snd.snd))) none) none) none)) (P.bind (atoms_Union k (r, (P.get x.snd.fst y.fst ((ByteArray.mk #[]), false, [])).snd.snd)) fun (r : List (Int × Int)) => P.bind (object_find k (y.snd.fst, (P.get x.snd.fst y.fst ((ByteArray.mk #[]), false, [])).fst)) fun (r_1 : Int × Bool) => P.cond r_1.snd (P.cond (P.inb r_1.fst (P.len y.snd.fst)) (some (Sum.inl (P.wrap IntKind.i64 (P.add y.fst ((1 : Int))), P.set y.snd.fst r_1.fst ((P.get x.snd.fst y.fst ((ByteArray.mk #[]), false, [])).fst, false, r), y.snd.snd))) none) (P.cond (P.ilt ((0 : Int)) (P.len [((P.get x.snd.fst y.fst ((ByteArray.mk #[]), false, [])).fst, false, r)])) (P.cond (P.cut ((0 : Int)) r_1.fst (P.len y.snd.fst)) (P.cond (P.room (P.add (P.len y.snd.fst) (P.len [((P.get x.snd.fst y.fst ((ByteArray.mk #[]), false, [])).fst, false, r)])) 48) (some (Sum.inl (P.wrap IntKind.i64 (P.add y.fst ((1 : Int))), P.insAt y.snd.fst r_1.fst [((P.get x.snd.fst y.fst ((ByteArray.mk #[]), false, [])).fst, false, r)], y.snd.snd))) none) none) none))) none)) fun (r : Int × List (ByteArray × Bool × List (Int × Int)) × List (Int × Int) ⊕ List (ByteArray × Bool × List (Int × Int)) × List (Int × Int) ⊕ List (ByteArray × Bool × List (Int × Int)) × List (Int × Int)) => some r)) none) (some (Sum.inr (Sum.inl (y.snd.fst, y.snd.snd))))) ((0 : Int), z, r)) (P.either (fun (z : List (ByteArray × Bool × List (Int × Int)) × List (Int × Int)) => some (z.fst, z.snd)) fun (r : List (ByteArray × Bool × List (Int × Int)) × List (Int × Int)) => some r)) fun (r : List (ByteArray × Bool × List (Int × Int)) × List (Int × Int)) => some r)) fun (r : List (ByteArray × Bool × List (Int × Int)) × List (Int × Int)) => some r)))
theorem object_Join_eq (k : Nat) (x : (Ty.D (.pair T_api_Shape T_api_Shape))) : evFn { T := T, specs := [(18, ⟨T_api_Shape, .bool, object_May k⟩), (56, ⟨(.slice T_api_Atom), (.slice T_api_Atom), slices_Clone_api_Atom_api_Atom k⟩), (59, ⟨(.pair (.slice T_api_Atom) (.slice T_api_Atom)), (.slice T_api_Atom), atoms_Union k⟩), (60, ⟨(.pair (.slice T_api_Field) .str), (.pair (.int .i64) .bool), object_find k⟩)], codes := codes, k := k, inpl := [(92, ⟨T_api_Atom, 93, sortF⟩)], ins := [(88, T_api_Field, 48)], calm := [58] } 6 Try.f22 [(6, ⟨[.var 34 (.d (.int .i64)), .cel 32 [] (.st (.pair .str (.pair .bool (.slice (.st (.pair (.int .i64) (.int .i64)))))))], [], (some (0, [.cel 32 [] (.st (.pair .str (.pair .bool (.slice (.st (.pair (.int .i64) (.int .i64)))))))]))⟩), (12, ⟨[.var 61 (.d (.int .i64)), .box 5 [] (.s (.p (.o (.st (.pair .str (.pair .bool (.slice (.st (.pair (.int .i64) (.int .i64)))))))) (.d (.slice (.st (.pair (.int .i64) (.int .i64)))))))], [], (some (2, [.box 5 [] (.s (.p (.o (.st (.pair .str (.pair .bool (.slice (.st (.pair (.int .i64) (.int .i64)))))))) (.d (.slice (.st (.pair (.int .i64) (.int .i64)))))))]))⟩)] (.pair T_api_Shape T_api_Shape) T_api_Shape x = object_Join k x := by kernel_rfl
theorem object_Join_spec (k : Nat) : SpecOk Try.prog GG 22 ⟨(.pair T_api_Shape T_api_Shape), T_api_Shape, object_Join k⟩ :=
  fn_spec (envOk (E := { T := T, specs := [(18, ⟨T_api_Shape, .bool, object_May k⟩), (56, ⟨(.slice T_api_Atom), (.slice T_api_Atom), slices_Clone_api_Atom_api_Atom k⟩), (59, ⟨(.pair (.slice T_api_Atom) (.slice T_api_Atom)), (.slice T_api_Atom), atoms_Union k⟩), (60, ⟨(.pair (.slice T_api_Field) .str), (.pair (.int .i64) .bool), object_find k⟩)], codes := codes, k := k, inpl := [(92, ⟨T_api_Atom, 93, sortF⟩)], ins := [(88, T_api_Field, 48)], calm := [58] }) tabOk (.cons (object_May_spec k) f18_at f18_ok <| .cons (slices_Clone_api_Atom_api_Atom_spec k) f56_at f56_ok <| .cons (atoms_Union_spec k) f59_at f59_ok <| .cons (object_find_spec k) f60_at f60_ok <| .nil) codesOk mixedOk (fun _ _ _ _ => trivial) (hi := inplOk) (hj := insOk)) f22_at (fun x => (object_Join_eq k x).symm)
noncomputable def slices_Index_api_Atom_api_Atom : (k : Nat) → (Ty.D (.pair (.slice T_api_Atom) T_api_Atom)) → Option (Ty.D (.int .i64)) := fun (k : Nat) (x : (T_api_Atom.slice.pair T_api_Atom).D) => P.bind (P.iter k (fun (y : Int) => P.cond (P.ilt y (P.len x.fst)) (P.cond (P.inb y (P.len x.fst)) (P.cond (P.and (P.ieq x.snd.fst (P.get x.fst y ((0 : Int), (0 : Int))).fst) (P.ieq x.snd.snd (P.get x.fst y ((0 : Int), (0 : Int))).snd)) (some (Sum.inr (Sum.inr y))) (some (Sum.inl (P.wrap IntKind.i64 (P.add y ((1 : Int))))))) none) (some (Sum.inr (Sum.inl PUnit.unit)))) ((0 : Int))) (P.either (fun (z : PUnit) => some ((-1 : Int))) fun (r : Int) => some r)
theorem slices_Index_api_Atom_api_Atom_eq (k : Nat) (x : (Ty.D (.pair (.slice T_api_Atom) T_api_Atom))) : evFn { T := T, specs := [], codes := codes, k := k, inpl := [(92, ⟨T_api_Atom, 93, sortF⟩)], ins := [(88, T_api_Field, 48)], calm := [58] } 6 Try.f110 [(2, ⟨[.var 8 (.d (.int .i64))], [], (some (0, []))⟩)] (.pair (.slice T_api_Atom) T_api_Atom) (.int .i64) x = slices_Index_api_Atom_api_Atom k x := by kernel_rfl
theorem slices_Index_api_Atom_api_Atom_spec (k : Nat) : SpecOk Try.prog GG 110 ⟨(.pair (.slice T_api_Atom) T_api_Atom), (.int .i64), slices_Index_api_Atom_api_Atom k⟩ :=
  fn_spec (envOk (E := { T := T, specs := [], codes := codes, k := k, inpl := [(92, ⟨T_api_Atom, 93, sortF⟩)], ins := [(88, T_api_Field, 48)], calm := [58] }) tabOk (.nil) codesOk mixedOk (fun _ _ _ _ => trivial) (hi := inplOk) (hj := insOk)) f110_at (fun x => (slices_Index_api_Atom_api_Atom_eq k x).symm)
noncomputable def slices_Contains_api_Atom_api_Atom : (k : Nat) → (Ty.D (.pair (.slice T_api_Atom) T_api_Atom)) → Option (Ty.D .bool) := fun (k : Nat) (x : (T_api_Atom.slice.pair T_api_Atom).D) => P.bind (slices_Index_api_Atom_api_Atom k (x.fst, x.snd)) fun (r : Int) => some (P.ile ((0 : Int)) r)
theorem slices_Contains_api_Atom_api_Atom_eq (k : Nat) (x : (Ty.D (.pair (.slice T_api_Atom) T_api_Atom))) : evFn { T := T, specs := [(110, ⟨(.pair (.slice T_api_Atom) T_api_Atom), (.int .i64), slices_Index_api_Atom_api_Atom k⟩)], codes := codes, k := k, inpl := [(92, ⟨T_api_Atom, 93, sortF⟩)], ins := [(88, T_api_Field, 48)], calm := [58] } 6 Try.f98 [] (.pair (.slice T_api_Atom) T_api_Atom) .bool x = slices_Contains_api_Atom_api_Atom k x := by kernel_rfl
theorem slices_Contains_api_Atom_api_Atom_spec (k : Nat) : SpecOk Try.prog GG 98 ⟨(.pair (.slice T_api_Atom) T_api_Atom), .bool, slices_Contains_api_Atom_api_Atom k⟩ :=
  fn_spec (envOk (E := { T := T, specs := [(110, ⟨(.pair (.slice T_api_Atom) T_api_Atom), (.int .i64), slices_Index_api_Atom_api_Atom k⟩)], codes := codes, k := k, inpl := [(92, ⟨T_api_Atom, 93, sortF⟩)], ins := [(88, T_api_Field, 48)], calm := [58] }) tabOk (.cons (slices_Index_api_Atom_api_Atom_spec k) f110_at f110_ok <| .nil) codesOk mixedOk (fun _ _ _ _ => trivial) (hi := inplOk) (hj := insOk)) f98_at (fun x => (slices_Contains_api_Atom_api_Atom_eq k x).symm)
noncomputable def atoms_Has : (k : Nat) → (Ty.D (.pair (.slice T_api_Atom) T_api_Atom)) → Option (Ty.D .bool) := fun (k : Nat) (x : (T_api_Atom.slice.pair T_api_Atom).D) => P.bind (slices_Contains_api_Atom_api_Atom k (x.fst, x.snd)) fun (r : Bool) => some r
theorem atoms_Has_eq (k : Nat) (x : (Ty.D (.pair (.slice T_api_Atom) T_api_Atom))) : evFn { T := T, specs := [(98, ⟨(.pair (.slice T_api_Atom) T_api_Atom), .bool, slices_Contains_api_Atom_api_Atom k⟩)], codes := codes, k := k, inpl := [(92, ⟨T_api_Atom, 93, sortF⟩)], ins := [(88, T_api_Field, 48)], calm := [58] } 6 Try.f74 [] (.pair (.slice T_api_Atom) T_api_Atom) .bool x = atoms_Has k x := by kernel_rfl
theorem atoms_Has_spec (k : Nat) : SpecOk Try.prog GG 74 ⟨(.pair (.slice T_api_Atom) T_api_Atom), .bool, atoms_Has k⟩ :=
  fn_spec (envOk (E := { T := T, specs := [(98, ⟨(.pair (.slice T_api_Atom) T_api_Atom), .bool, slices_Contains_api_Atom_api_Atom k⟩)], codes := codes, k := k, inpl := [(92, ⟨T_api_Atom, 93, sortF⟩)], ins := [(88, T_api_Field, 48)], calm := [58] }) tabOk (.cons (slices_Contains_api_Atom_api_Atom_spec k) f98_at f98_ok <| .nil) codesOk mixedOk (fun _ _ _ _ => trivial) (hi := inplOk) (hj := insOk)) f74_at (fun x => (atoms_Has_eq k x).symm)
noncomputable def atoms_Within : (k : Nat) → (Ty.D (.pair (.slice T_api_Atom) (.slice T_api_Atom))) → Option (Ty.D .bool) := fun (k : Nat) (x : (T_api_Atom.slice.pair T_api_Atom.slice).D) => P.bind (P.iter k (fun (y : Int) => P.cond (P.ilt y (P.len x.fst)) (P.cond (P.inb y (P.len x.fst)) (P.bind (atoms_Has k (x.snd, P.get x.fst y ((0 : Int), (0 : Int)))) fun (r : Bool) => P.cond (P.not r) (some (Sum.inr (Sum.inr false))) (some (Sum.inl (P.wrap IntKind.i64 (P.add y ((1 : Int))))))) none) (some (Sum.inr (Sum.inl PUnit.unit)))) ((0 : Int))) (P.either (fun (z : PUnit) => some true) fun (r : Bool) => some r)
theorem atoms_Within_eq (k : Nat) (x : (Ty.D (.pair (.slice T_api_Atom) (.slice T_api_Atom)))) : evFn { T := T, specs := [(74, ⟨(.pair (.slice T_api_Atom) T_api_Atom), .bool, atoms_Has k⟩)], codes := codes, k := k, inpl := [(92, ⟨T_api_Atom, 93, sortF⟩)], ins := [(88, T_api_Field, 48)], calm := [58] } 6 Try.f63 [(2, ⟨[.var 9 (.d (.int .i64))], [], (some (0, []))⟩)] (.pair (.slice T_api_Atom) (.slice T_api_Atom)) .bool x = atoms_Within k x := by kernel_rfl
theorem atoms_Within_spec (k : Nat) : SpecOk Try.prog GG 63 ⟨(.pair (.slice T_api_Atom) (.slice T_api_Atom)), .bool, atoms_Within k⟩ :=
  fn_spec (envOk (E := { T := T, specs := [(74, ⟨(.pair (.slice T_api_Atom) T_api_Atom), .bool, atoms_Has k⟩)], codes := codes, k := k, inpl := [(92, ⟨T_api_Atom, 93, sortF⟩)], ins := [(88, T_api_Field, 48)], calm := [58] }) tabOk (.cons (atoms_Has_spec k) f74_at f74_ok <| .nil) codesOk mixedOk (fun _ _ _ _ => trivial) (hi := inplOk) (hj := insOk)) f63_at (fun x => (atoms_Within_eq k x).symm)
noncomputable def object_Within : (k : Nat) → (Ty.D (.pair T_api_Shape T_api_Shape)) → Option (Ty.D .bool) := fun (k : Nat) (x : (T_api_Shape.pair T_api_Shape).D) => P.bind (object_May k x.fst) fun (r : Bool) => P.cond (P.not r) (some false) (P.bind (object_May k x.snd) fun (r : Bool) => P.cond (P.not r) (some false) (P.bind (atoms_Within k (x.fst.snd, x.snd.snd)) fun (r : Bool) => P.cond (P.not r) (some false) (P.bind (P.iter k (fun (y : Int) => P.cond (P.ilt y (P.len x.fst.fst)) (P.cond (P.inb y (P.len x.fst.fst)) (P.bind (object_find k (x.snd.fst, (P.get x.fst.fst y ((ByteArray.mk #[]), false, [])).fst)) fun (r : Int × Bool) => P.cond (P.not r.snd) (some (Sum.inr (Sum.inr false))) (P.cond (P.inb r.fst (P.len x.snd.fst)) (P.bind (atoms_Within k ((P.get x.fst.fst y ((ByteArray.mk #[]), false, [])).snd.snd, (P.get x.snd.fst r.fst ((ByteArray.mk #[]), false, [])).snd.snd)) fun (r_1 : Bool) => P.cond (P.not r_1) (some (Sum.inr (Sum.inr false))) (P.cond (P.inb r.fst (P.len x.snd.fst)) (P.cond (P.get x.snd.fst r.fst ((ByteArray.mk #[]), false, [])).snd.fst (P.cond (P.not (P.get x.fst.fst y ((ByteArray.mk #[]), false, [])).snd.fst) (some (Sum.inr (Sum.inr false))) (some (Sum.inl (P.wrap IntKind.i64 (P.add y ((1 : Int))))))) (some (Sum.inl (P.wrap IntKind.i64 (P.add y ((1 : Int))))))) none)) none)) none) (some (Sum.inr (Sum.inl PUnit.unit)))) ((0 : Int))) (P.either (fun (z : PUnit) => P.bind (P.iter k (fun (y : Int) => P.cond (P.ilt y (P.len x.snd.fst)) (P.cond (P.inb y (P.len x.snd.fst)) (P.bind (object_find k (x.fst.fst, (P.get x.snd.fst y ((ByteArray.mk #[]), false, [])).fst)) fun (r : Int × Bool) => P.cond (P.get x.snd.fst y ((ByteArray.mk #[]), false, [])).snd.fst (P.cond (P.not r.snd) (some (Sum.inr (Sum.inr (P.not (P.ile ((0 : Int)) y))))) (some (Sum.inl (P.wrap IntKind.i64 (P.add y ((1 : Int))))))) (some (Sum.inl (P.wrap IntKind.i64 (P.add y ((1 : Int))))))) none) (some (Sum.inr (Sum.inl PUnit.unit)))) ((0 : Int))) (P.either (fun (z : PUnit) => some (P.not (P.ile ((0 : Int)) ((-1 : Int))))) fun (r : Bool) => some r)) fun (r : Bool) => some r))))
theorem object_Within_eq (k : Nat) (x : (Ty.D (.pair T_api_Shape T_api_Shape))) : evFn { T := T, specs := [(18, ⟨T_api_Shape, .bool, object_May k⟩), (60, ⟨(.pair (.slice T_api_Field) .str), (.pair (.int .i64) .bool), object_find k⟩), (63, ⟨(.pair (.slice T_api_Atom) (.slice T_api_Atom)), .bool, atoms_Within k⟩)], codes := codes, k := k, inpl := [(92, ⟨T_api_Atom, 93, sortF⟩)], ins := [(88, T_api_Field, 48)], calm := [58] } 6 Try.f24 [(4, ⟨[.var 28 (.d (.int .i64))], [], (some (0, []))⟩)] (.pair T_api_Shape T_api_Shape) .bool x = object_Within k x := by kernel_rfl
theorem object_Within_spec (k : Nat) : SpecOk Try.prog GG 24 ⟨(.pair T_api_Shape T_api_Shape), .bool, object_Within k⟩ :=
  fn_spec (envOk (E := { T := T, specs := [(18, ⟨T_api_Shape, .bool, object_May k⟩), (60, ⟨(.pair (.slice T_api_Field) .str), (.pair (.int .i64) .bool), object_find k⟩), (63, ⟨(.pair (.slice T_api_Atom) (.slice T_api_Atom)), .bool, atoms_Within k⟩)], codes := codes, k := k, inpl := [(92, ⟨T_api_Atom, 93, sortF⟩)], ins := [(88, T_api_Field, 48)], calm := [58] }) tabOk (.cons (object_May_spec k) f18_at f18_ok <| .cons (object_find_spec k) f60_at f60_ok <| .cons (atoms_Within_spec k) f63_at f63_ok <| .nil) codesOk mixedOk (fun _ _ _ _ => trivial) (hi := inplOk) (hj := insOk)) f24_at (fun x => (object_Within_eq k x).symm)
noncomputable def object_Weak : (k : Nat) → (Ty.D (.pair T_api_Shape (.pair .str (.slice T_api_Atom)))) → Option (Ty.D T_api_Shape) := fun (k : Nat) (x : (T_api_Shape.pair (Ty.str.pair T_api_Atom.slice)).D) => P.bind (object_May k x.fst) fun (r : Bool) => P.cond (P.not r) (some ([], [])) (P.bind (object_Get k (x.fst, x.snd.fst)) fun (r : (ByteArray × Bool × List (Int × Int)) × Bool) => P.bind (slices_Clone_api_Atom_api_Atom k x.fst.snd) fun (r_1 : List (Int × Int)) => P.bind (P.iter k (fun (y : Int × List (ByteArray × Bool × List (Int × Int)) × List (Int × Int)) => P.cond (P.ilt y.fst (P.len x.fst.fst)) (P.cond (P.inb y.fst (P.len x.fst.fst)) (P.bind (slices_Clone_api_Atom_api_Atom k (P.get x.fst.fst y.fst ((ByteArray.mk #[]), false, [])).snd.snd) fun (r : List (Int × Int)) => P.cond (P.room (P.add (P.len y.snd.fst) (P.len [((P.get x.fst.fst y.fst ((ByteArray.mk #[]), false, [])).fst, (P.get x.fst.fst y.fst ((ByteArray.mk #[]), false, [])).snd.fst, r)])) 48) (some (Sum.inl (P.wrap IntKind.i64 (P.add y.fst ((1 : Int))), P.app y.snd.fst [((P.get x.fst.fst y.fst ((ByteArray.mk #[]), false, [])).fst, (P.get x.fst.fst y.fst ((ByteArray.mk #[]), false, [])).snd.fst, r)], y.snd.snd))) none) none) (some (Sum.inr (Sum.inl (y.snd.fst, y.snd.snd))))) ((0 : Int), [], r_1)) (P.either (fun (z : List (ByteArray × Bool × List (Int × Int)) × List (Int × Int)) => P.bind (atoms_Union k (r.fst.snd.snd, x.snd.snd)) fun (r_2 : List (Int × Int)) => P.bind (object_find k (z.fst, x.snd.fst)) fun (r_3 : Int × Bool) => P.cond r_3.snd (P.cond (P.inb r_3.fst (P.len z.fst)) (some (P.set z.fst r_3.fst (x.snd.fst, r.fst.snd.fst, r_2), z.snd)) none) (P.cond (P.ilt ((0 : Int)) (P.len [(x.snd.fst, r.fst.snd.fst, r_2)])) (P.cond (P.cut ((0 : Int)) r_3.fst (P.len z.fst)) (P.cond (P.room (P.add (P.len z.fst) (P.len [(x.snd.fst, r.fst.snd.fst, r_2)])) 48) (some (P.insAt z.fst r_3.fst [(x.snd.fst, r.fst.snd.fst, r_2)], z.snd)) none) none) none)) fun (r : List (ByteArray × Bool × List (Int × Int)) × List (Int × Int)) => some r))
theorem object_Weak_eq (k : Nat) (x : (Ty.D (.pair T_api_Shape (.pair .str (.slice T_api_Atom))))) : evFn { T := T, specs := [(16, ⟨(.pair T_api_Shape .str), (.pair T_api_Field .bool), object_Get k⟩), (18, ⟨T_api_Shape, .bool, object_May k⟩), (56, ⟨(.slice T_api_Atom), (.slice T_api_Atom), slices_Clone_api_Atom_api_Atom k⟩), (59, ⟨(.pair (.slice T_api_Atom) (.slice T_api_Atom)), (.slice T_api_Atom), atoms_Union k⟩), (60, ⟨(.pair (.slice T_api_Field) .str), (.pair (.int .i64) .bool), object_find k⟩)], codes := codes, k := k, inpl := [(92, ⟨T_api_Atom, 93, sortF⟩)], ins := [(88, T_api_Field, 48)], calm := [58] } 6 Try.f27 [] (.pair T_api_Shape (.pair .str (.slice T_api_Atom))) T_api_Shape x = object_Weak k x := by kernel_rfl
theorem object_Weak_spec (k : Nat) : SpecOk Try.prog GG 27 ⟨(.pair T_api_Shape (.pair .str (.slice T_api_Atom))), T_api_Shape, object_Weak k⟩ :=
  fn_spec (envOk (E := { T := T, specs := [(16, ⟨(.pair T_api_Shape .str), (.pair T_api_Field .bool), object_Get k⟩), (18, ⟨T_api_Shape, .bool, object_May k⟩), (56, ⟨(.slice T_api_Atom), (.slice T_api_Atom), slices_Clone_api_Atom_api_Atom k⟩), (59, ⟨(.pair (.slice T_api_Atom) (.slice T_api_Atom)), (.slice T_api_Atom), atoms_Union k⟩), (60, ⟨(.pair (.slice T_api_Field) .str), (.pair (.int .i64) .bool), object_find k⟩)], codes := codes, k := k, inpl := [(92, ⟨T_api_Atom, 93, sortF⟩)], ins := [(88, T_api_Field, 48)], calm := [58] }) tabOk (.cons (object_Get_spec k) f16_at f16_ok <| .cons (object_May_spec k) f18_at f18_ok <| .cons (slices_Clone_api_Atom_api_Atom_spec k) f56_at f56_ok <| .cons (atoms_Union_spec k) f59_at f59_ok <| .cons (object_find_spec k) f60_at f60_ok <| .nil) codesOk mixedOk (fun _ _ _ _ => trivial) (hi := inplOk) (hj := insOk)) f27_at (fun x => (object_Weak_eq k x).symm)
noncomputable def object_Strong : (k : Nat) → (Ty.D (.pair T_api_Shape (.pair .str (.slice T_api_Atom)))) → Option (Ty.D T_api_Shape) := fun (k : Nat) (x : (T_api_Shape.pair (Ty.str.pair T_api_Atom.slice)).D) => P.bind (object_May k x.fst) fun (r : Bool) => P.cond (P.not r) (some ([], [])) (P.bind (slices_Clone_api_Atom_api_Atom k x.fst.snd) fun (r : List (Int × Int)) => P.bind (P.iter k (fun (y : Int × List (ByteArray × Bool × List (Int × Int)) × List (Int × Int)) => P.cond (P.ilt y.fst (P.len x.fst.fst)) (P.cond (P.inb y.fst (P.len x.fst.fst)) (P.bind (slices_Clone_api_Atom_api_Atom k (P.get x.fst.fst y.fst ((ByteArray.mk #[]), false, [])).snd.snd) fun (r : List (Int × Int)) => P.cond (P.room (P.add (P.len y.snd.fst) (P.len [((P.get x.fst.fst y.fst ((ByteArray.mk #[]), false, [])).fst, (P.get x.fst.fst y.fst ((ByteArray.mk #[]), false, [])).snd.fst, r)])) 48) (some (Sum.inl (P.wrap IntKind.i64 (P.add y.fst ((1 : Int))), P.app y.snd.fst [((P.get x.fst.fst y.fst ((ByteArray.mk #[]), false, [])).fst, (P.get x.fst.fst y.fst ((ByteArray.mk #[]), false, [])).snd.fst, r)], y.snd.snd))) none) none) (some (Sum.inr (Sum.inl (y.snd.fst, y.snd.snd))))) ((0 : Int), [], r)) (P.either (fun (z : List (ByteArray × Bool × List (Int × Int)) × List (Int × Int)) => P.bind (atoms_Norm k x.snd.snd) fun (r : List (Int × Int)) => P.bind (object_find k (z.fst, x.snd.fst)) fun (r_1 : Int × Bool) => P.cond r_1.snd (P.cond (P.inb r_1.fst (P.len z.fst)) (some (P.set z.fst r_1.fst (x.snd.fst, true, r), z.snd)) none) (P.cond (P.ilt ((0 : Int)) (P.len [(x.snd.fst, true, r)])) (P.cond (P.cut ((0 : Int)) r_1.fst (P.len z.fst)) (P.cond (P.room (P.add (P.len z.fst) (P.len [(x.snd.fst, true, r)])) 48) (some (P.insAt z.fst r_1.fst [(x.snd.fst, true, r)], z.snd)) none) none) none)) fun (r : List (ByteArray × Bool × List (Int × Int)) × List (Int × Int)) => some r))
theorem object_Strong_eq (k : Nat) (x : (Ty.D (.pair T_api_Shape (.pair .str (.slice T_api_Atom))))) : evFn { T := T, specs := [(18, ⟨T_api_Shape, .bool, object_May k⟩), (56, ⟨(.slice T_api_Atom), (.slice T_api_Atom), slices_Clone_api_Atom_api_Atom k⟩), (60, ⟨(.pair (.slice T_api_Field) .str), (.pair (.int .i64) .bool), object_find k⟩), (67, ⟨(.slice T_api_Atom), (.slice T_api_Atom), atoms_Norm k⟩)], codes := codes, k := k, inpl := [(92, ⟨T_api_Atom, 93, sortF⟩)], ins := [(88, T_api_Field, 48)], calm := [58] } 6 Try.f28 [] (.pair T_api_Shape (.pair .str (.slice T_api_Atom))) T_api_Shape x = object_Strong k x := by kernel_rfl
theorem object_Strong_spec (k : Nat) : SpecOk Try.prog GG 28 ⟨(.pair T_api_Shape (.pair .str (.slice T_api_Atom))), T_api_Shape, object_Strong k⟩ :=
  fn_spec (envOk (E := { T := T, specs := [(18, ⟨T_api_Shape, .bool, object_May k⟩), (56, ⟨(.slice T_api_Atom), (.slice T_api_Atom), slices_Clone_api_Atom_api_Atom k⟩), (60, ⟨(.pair (.slice T_api_Field) .str), (.pair (.int .i64) .bool), object_find k⟩), (67, ⟨(.slice T_api_Atom), (.slice T_api_Atom), atoms_Norm k⟩)], codes := codes, k := k, inpl := [(92, ⟨T_api_Atom, 93, sortF⟩)], ins := [(88, T_api_Field, 48)], calm := [58] }) tabOk (.cons (object_May_spec k) f18_at f18_ok <| .cons (slices_Clone_api_Atom_api_Atom_spec k) f56_at f56_ok <| .cons (object_find_spec k) f60_at f60_ok <| .cons (atoms_Norm_spec k) f67_at f67_ok <| .nil) codesOk mixedOk (fun _ _ _ _ => trivial) (hi := inplOk) (hj := insOk)) f28_at (fun x => (object_Strong_eq k x).symm)
noncomputable def ref06_Null : (k : Nat) → (Ty.D .unit) → Option (Ty.D (.slice T_api_Atom)) := fun (k : Nat) (x : Ty.unit.D) => some [((0 : Int), (0 : Int))]
theorem ref06_Null_eq (k : Nat) (x : (Ty.D .unit)) : evFn { T := T, specs := [], codes := codes, k := k, inpl := [(92, ⟨T_api_Atom, 93, sortF⟩)], ins := [(88, T_api_Field, 48)], calm := [58] } 6 Try.f30 [] .unit (.slice T_api_Atom) x = ref06_Null k x := by kernel_rfl
theorem ref06_Null_spec (k : Nat) : SpecOk Try.prog GG 30 ⟨.unit, (.slice T_api_Atom), ref06_Null k⟩ :=
  fn_spec (envOk (E := { T := T, specs := [], codes := codes, k := k, inpl := [(92, ⟨T_api_Atom, 93, sortF⟩)], ins := [(88, T_api_Field, 48)], calm := [58] }) tabOk (.nil) codesOk mixedOk (fun _ _ _ _ => trivial) (hi := inplOk) (hj := insOk)) f30_at (fun x => (ref06_Null_eq k x).symm)
noncomputable def ref06_Num : (k : Nat) → (Ty.D .unit) → Option (Ty.D (.slice T_api_Atom)) := fun (k : Nat) (x : Ty.unit.D) => some [((2 : Int), (0 : Int))]
theorem ref06_Num_eq (k : Nat) (x : (Ty.D .unit)) : evFn { T := T, specs := [], codes := codes, k := k, inpl := [(92, ⟨T_api_Atom, 93, sortF⟩)], ins := [(88, T_api_Field, 48)], calm := [58] } 6 Try.f53 [] .unit (.slice T_api_Atom) x = ref06_Num k x := by kernel_rfl
theorem ref06_Num_spec (k : Nat) : SpecOk Try.prog GG 53 ⟨.unit, (.slice T_api_Atom), ref06_Num k⟩ :=
  fn_spec (envOk (E := { T := T, specs := [], codes := codes, k := k, inpl := [(92, ⟨T_api_Atom, 93, sortF⟩)], ins := [(88, T_api_Field, 48)], calm := [58] }) tabOk (.nil) codesOk mixedOk (fun _ _ _ _ => trivial) (hi := inplOk) (hj := insOk)) f53_at (fun x => (ref06_Num_eq k x).symm)
noncomputable def law07_one : (k : Nat) → (Ty.D .unit) → Option (Ty.D T_api_Shape) := fun (k : Nat) (x : Ty.unit.D) => P.bind (ref06_Num k PUnit.unit) fun (r : List (Int × Int)) => P.bind (ref06_Null k PUnit.unit) fun (r_1 : List (Int × Int)) => some ([((ByteArray.mk #[112]), true, r)], r_1)
theorem law07_one_eq (k : Nat) (x : (Ty.D .unit)) : evFn { T := T, specs := [(30, ⟨.unit, (.slice T_api_Atom), ref06_Null k⟩), (53, ⟨.unit, (.slice T_api_Atom), ref06_Num k⟩)], codes := codes, k := k, inpl := [(92, ⟨T_api_Atom, 93, sortF⟩)], ins := [(88, T_api_Field, 48)], calm := [58] } 6 Try.f52 [] .unit T_api_Shape x = law07_one k x := by kernel_rfl
theorem law07_one_spec (k : Nat) : SpecOk Try.prog GG 52 ⟨.unit, T_api_Shape, law07_one k⟩ :=
  fn_spec (envOk (E := { T := T, specs := [(30, ⟨.unit, (.slice T_api_Atom), ref06_Null k⟩), (53, ⟨.unit, (.slice T_api_Atom), ref06_Num k⟩)], codes := codes, k := k, inpl := [(92, ⟨T_api_Atom, 93, sortF⟩)], ins := [(88, T_api_Field, 48)], calm := [58] }) tabOk (.cons (ref06_Null_spec k) f30_at f30_ok <| .cons (ref06_Num_spec k) f53_at f53_ok <| .nil) codesOk mixedOk (fun _ _ _ _ => trivial) (hi := inplOk) (hj := insOk)) f52_at (fun x => (law07_one_eq k x).symm)
noncomputable def law07_fixed : (k : Nat) → (Ty.D .unit) → Option (Ty.D .bool) := fun (k : Nat) (x : Ty.unit.D) => P.bind (law07_one k PUnit.unit) fun (r : List (ByteArray × Bool × List (Int × Int)) × List (Int × Int)) => P.bind (ref06_Null k PUnit.unit) fun (r_1 : List (Int × Int)) => P.bind (object_Join k (r, [], r_1)) fun (r : List (ByteArray × Bool × List (Int × Int)) × List (Int × Int)) => P.bind (law07_one k PUnit.unit) fun (r_2 : List (ByteArray × Bool × List (Int × Int)) × List (Int × Int)) => P.bind (ref06_Null k PUnit.unit) fun (r_3 : List (Int × Int)) => P.bind (object_Weak k (r_2, (ByteArray.mk #[112]), r_3)) fun (r_4 : List (ByteArray × Bool × List (Int × Int)) × List (Int × Int)) => P.bind (object_Get k (r, (ByteArray.mk #[112]))) fun (r_5 : (ByteArray × Bool × List (Int × Int)) × Bool) => P.bind (object_Get k (r_4, (ByteArray.mk #[112]))) fun (r_6 : (ByteArray × Bool × List (Int × Int)) × Bool) => P.bind (law07_one k PUnit.unit) fun (r_7 : List (ByteArray × Bool × List (Int × Int)) × List (Int × Int)) => P.bind (ref06_Null k PUnit.unit) fun (r_8 : List (Int × Int)) => P.bind (object_Strong k (r_7, (ByteArray.mk #[112]), r_8)) fun (r_9 : List (ByteArray × Bool × List (Int × Int)) × List (Int × Int)) => P.bind (object_Get k (r_9, (ByteArray.mk #[112]))) fun (r_10 : (ByteArray × Bool × List (Int × Int)) × Bool) => P.cond r_5.snd (P.cond (P.not r_5.fst.snd.fst) (P.bind (ref06_Num k PUnit.unit) fun (r_11 : List (Int × Int)) => P.bind (ref06_Same k (r_5.fst.snd.snd, r_11)) fun (r_12 : Bool) => P.cond r_12 (P.cond r_6.snd (P.cond r_6.fst.snd.fst (P.cond (P.ieq (P.len r_6.fst.snd.snd) ((2 : Int))) (P.cond r_10.snd (P.cond r_10.fst.snd.fst (P.bind (ref06_Null k PUnit.unit) fun (r_13 : List (Int × Int)) => P.bind (ref06_Same k (r_10.fst.snd.snd, r_13)) fun (r_14 : Bool) => P.cond r_14 (P.bind (law07_one k PUnit.unit) fun (r_15 : List (ByteArray × Bool × List (Int × Int)) × List (Int × Int)) => P.bind (object_May k r_15) fun (r_16 : Bool) => P.cond r_16 (P.bind (law07_one k PUnit.unit) fun (r_17 : List (ByteArray × Bool × List (Int × Int)) × List (Int × Int)) => P.bind (object_Within k (r_17, r)) fun (r_18 : Bool) => P.cond r_18 (P.bind (law07_one k PUnit.unit) fun (r_19 : List (ByteArray × Bool × List (Int × Int)) × List (Int × Int)) => P.bind (object_Within k (r, r_19)) fun (r : Bool) => some (P.not r)) (some false)) (some false)) (some false)) (some false)) (some false)) (some false)) (some false)) (some false)) (some false)) (some false)) (some false)
theorem law07_fixed_eq (k : Nat) (x : (Ty.D .unit)) : evFn { T := T, specs := [(16, ⟨(.pair T_api_Shape .str), (.pair T_api_Field .bool), object_Get k⟩), (18, ⟨T_api_Shape, .bool, object_May k⟩), (20, ⟨(.pair (.slice T_api_Atom) (.slice T_api_Atom)), .bool, ref06_Same k⟩), (22, ⟨(.pair T_api_Shape T_api_Shape), T_api_Shape, object_Join k⟩), (24, ⟨(.pair T_api_Shape T_api_Shape), .bool, object_Within k⟩), (27, ⟨(.pair T_api_Shape (.pair .str (.slice T_api_Atom))), T_api_Shape, object_Weak k⟩), (28, ⟨(.pair T_api_Shape (.pair .str (.slice T_api_Atom))), T_api_Shape, object_Strong k⟩), (30, ⟨.unit, (.slice T_api_Atom), ref06_Null k⟩), (52, ⟨.unit, T_api_Shape, law07_one k⟩), (53, ⟨.unit, (.slice T_api_Atom), ref06_Num k⟩), (56, ⟨(.slice T_api_Atom), (.slice T_api_Atom), slices_Clone_api_Atom_api_Atom k⟩)], codes := codes, k := k, inpl := [(92, ⟨T_api_Atom, 93, sortF⟩)], ins := [(88, T_api_Field, 48)], calm := [58] } 6 Try.f15 [] .unit .bool x = law07_fixed k x := by kernel_rfl
theorem law07_fixed_spec (k : Nat) : SpecOk Try.prog GG 15 ⟨.unit, .bool, law07_fixed k⟩ :=
  fn_spec (envOk (E := { T := T, specs := [(16, ⟨(.pair T_api_Shape .str), (.pair T_api_Field .bool), object_Get k⟩), (18, ⟨T_api_Shape, .bool, object_May k⟩), (20, ⟨(.pair (.slice T_api_Atom) (.slice T_api_Atom)), .bool, ref06_Same k⟩), (22, ⟨(.pair T_api_Shape T_api_Shape), T_api_Shape, object_Join k⟩), (24, ⟨(.pair T_api_Shape T_api_Shape), .bool, object_Within k⟩), (27, ⟨(.pair T_api_Shape (.pair .str (.slice T_api_Atom))), T_api_Shape, object_Weak k⟩), (28, ⟨(.pair T_api_Shape (.pair .str (.slice T_api_Atom))), T_api_Shape, object_Strong k⟩), (30, ⟨.unit, (.slice T_api_Atom), ref06_Null k⟩), (52, ⟨.unit, T_api_Shape, law07_one k⟩), (53, ⟨.unit, (.slice T_api_Atom), ref06_Num k⟩), (56, ⟨(.slice T_api_Atom), (.slice T_api_Atom), slices_Clone_api_Atom_api_Atom k⟩)], codes := codes, k := k, inpl := [(92, ⟨T_api_Atom, 93, sortF⟩)], ins := [(88, T_api_Field, 48)], calm := [58] }) tabOk (.cons (object_Get_spec k) f16_at f16_ok <| .cons (object_May_spec k) f18_at f18_ok <| .cons (ref06_Same_spec k) f20_at f20_ok <| .cons (object_Join_spec k) f22_at f22_ok <| .cons (object_Within_spec k) f24_at f24_ok <| .cons (object_Weak_spec k) f27_at f27_ok <| .cons (object_Strong_spec k) f28_at f28_ok <| .cons (ref06_Null_spec k) f30_at f30_ok <| .cons (law07_one_spec k) f52_at f52_ok <| .cons (ref06_Num_spec k) f53_at f53_ok <| .cons (slices_Clone_api_Atom_api_Atom_spec k) f56_at f56_ok <| .nil) codesOk mixedOk (fun _ _ _ _ => trivial) (hi := inplOk) (hj := insOk)) f15_at (fun x => (law07_fixed_eq k x).symm)
noncomputable def ref07_Get : (k : Nat) → (Ty.D (.pair T_api_Shape .str)) → Option (Ty.D (.pair T_api_Field .bool)) := fun (k : Nat) (x : (T_api_Shape.pair Ty.str).D) => P.bind (P.iter k (fun (y : Int) => P.cond (P.ilt y (P.len x.fst.fst)) (P.cond (P.inb y (P.len x.fst.fst)) (P.cond (P.seq (P.get x.fst.fst y ((ByteArray.mk #[]), false, [])).fst x.snd) (P.cond (P.inb y (P.len x.fst.fst)) (some (Sum.inr (Sum.inr (P.get x.fst.fst y ((ByteArray.mk #[]), false, []), true)))) none) (some (Sum.inl (P.wrap IntKind.i64 (P.add y ((1 : Int))))))) none) (some (Sum.inr (Sum.inl PUnit.unit)))) ((0 : Int))) (P.either (fun (z : PUnit) => some (((ByteArray.mk #[]), false, []), false)) fun (r : (ByteArray × Bool × List (Int × Int)) × Bool) => some r)
theorem ref07_Get_eq (k : Nat) (x : (Ty.D (.pair T_api_Shape .str))) : evFn { T := T, specs := [], codes := codes, k := k, inpl := [(92, ⟨T_api_Atom, 93, sortF⟩)], ins := [(88, T_api_Field, 48)], calm := [58] } 6 Try.f17 [(2, ⟨[.var 6 (.d (.int .i64))], [4], (some (0, []))⟩)] (.pair T_api_Shape .str) (.pair T_api_Field .bool) x = ref07_Get k x := by kernel_rfl
theorem ref07_Get_spec (k : Nat) : SpecOk Try.prog GG 17 ⟨(.pair T_api_Shape .str), (.pair T_api_Field .bool), ref07_Get k⟩ :=
  fn_spec (envOk (E := { T := T, specs := [], codes := codes, k := k, inpl := [(92, ⟨T_api_Atom, 93, sortF⟩)], ins := [(88, T_api_Field, 48)], calm := [58] }) tabOk (.nil) codesOk mixedOk (fun _ _ _ _ => trivial) (hi := inplOk) (hj := insOk)) f17_at (fun x => (ref07_Get_eq k x).symm)
noncomputable def ref06_Has : (k : Nat) → (Ty.D (.pair (.slice T_api_Atom) T_api_Atom)) → Option (Ty.D .bool) := fun (k : Nat) (x : (T_api_Atom.slice.pair T_api_Atom).D) => P.bind (P.iter k (fun (y : Int) => P.cond (P.ilt y (P.len x.fst)) (P.cond (P.inb y (P.len x.fst)) (P.cond (P.and (P.ieq (P.get x.fst y ((0 : Int), (0 : Int))).fst x.snd.fst) (P.ieq (P.get x.fst y ((0 : Int), (0 : Int))).snd x.snd.snd)) (some (Sum.inr (Sum.inr true))) (some (Sum.inl (P.wrap IntKind.i64 (P.add y ((1 : Int))))))) none) (some (Sum.inr (Sum.inl PUnit.unit)))) ((0 : Int))) (P.either (fun (z : PUnit) => some false) fun (r : Bool) => some r)
theorem ref06_Has_eq (k : Nat) (x : (Ty.D (.pair (.slice T_api_Atom) T_api_Atom))) : evFn { T := T, specs := [], codes := codes, k := k, inpl := [(92, ⟨T_api_Atom, 93, sortF⟩)], ins := [(88, T_api_Field, 48)], calm := [58] } 6 Try.f50 [(2, ⟨[.var 5 (.d (.int .i64))], [], (some (0, []))⟩)] (.pair (.slice T_api_Atom) T_api_Atom) .bool x = ref06_Has k x := by kernel_rfl
theorem ref06_Has_spec (k : Nat) : SpecOk Try.prog GG 50 ⟨(.pair (.slice T_api_Atom) T_api_Atom), .bool, ref06_Has k⟩ :=
  fn_spec (envOk (E := { T := T, specs := [], codes := codes, k := k, inpl := [(92, ⟨T_api_Atom, 93, sortF⟩)], ins := [(88, T_api_Field, 48)], calm := [58] }) tabOk (.nil) codesOk mixedOk (fun _ _ _ _ => trivial) (hi := inplOk) (hj := insOk)) f50_at (fun x => (ref06_Has_eq k x).symm)
noncomputable def ref06_Less : (k : Nat) → (Ty.D (.pair T_api_Atom T_api_Atom)) → Option (Ty.D .bool) := fun (k : Nat) (x : (T_api_Atom.pair T_api_Atom).D) => P.cond (P.ilt x.fst.fst x.snd.fst) (some true) (P.cond (P.ieq x.fst.fst x.snd.fst) (some (P.ilt x.fst.snd x.snd.snd)) (some false))
theorem ref06_Less_eq (k : Nat) (x : (Ty.D (.pair T_api_Atom T_api_Atom))) : evFn { T := T, specs := [], codes := codes, k := k, inpl := [(92, ⟨T_api_Atom, 93, sortF⟩)], ins := [(88, T_api_Field, 48)], calm := [58] } 6 Try.f82 [] (.pair T_api_Atom T_api_Atom) .bool x = ref06_Less k x := by kernel_rfl
theorem ref06_Less_spec (k : Nat) : SpecOk Try.prog GG 82 ⟨(.pair T_api_Atom T_api_Atom), .bool, ref06_Less k⟩ :=
  fn_spec (envOk (E := { T := T, specs := [], codes := codes, k := k, inpl := [(92, ⟨T_api_Atom, 93, sortF⟩)], ins := [(88, T_api_Field, 48)], calm := [58] }) tabOk (.nil) codesOk mixedOk (fun _ _ _ _ => trivial) (hi := inplOk) (hj := insOk)) f82_at (fun x => (ref06_Less_eq k x).symm)
noncomputable def ref06_Right : (k : Nat) → (Ty.D T_api_Atom) → Option (Ty.D .bool) := fun (k : Nat) (x : T_api_Atom.D) => P.cond (P.ile ((3 : Int)) x.fst) (P.cond (P.ile x.fst ((5 : Int))) (some (P.ile ((0 : Int)) x.snd)) (P.cond (P.ile ((0 : Int)) x.fst) (P.cond (P.ile x.fst ((6 : Int))) (some (P.ieq x.snd ((0 : Int)))) (some false)) (some false))) (P.cond (P.ile ((0 : Int)) x.fst) (P.cond (P.ile x.fst ((6 : Int))) (some (P.ieq x.snd ((0 : Int)))) (some false)) (some false))
theorem ref06_Right_eq (k : Nat) (x : (Ty.D T_api_Atom)) : evFn { T := T, specs := [], codes := codes, k := k, inpl := [(92, ⟨T_api_Atom, 93, sortF⟩)], ins := [(88, T_api_Field, 48)], calm := [58] } 6 Try.f95 [] T_api_Atom .bool x = ref06_Right k x := by kernel_rfl
theorem ref06_Right_spec (k : Nat) : SpecOk Try.prog GG 95 ⟨T_api_Atom, .bool, ref06_Right k⟩ :=
  fn_spec (envOk (E := { T := T, specs := [], codes := codes, k := k, inpl := [(92, ⟨T_api_Atom, 93, sortF⟩)], ins := [(88, T_api_Field, 48)], calm := [58] }) tabOk (.nil) codesOk mixedOk (fun _ _ _ _ => trivial) (hi := inplOk) (hj := insOk)) f95_at (fun x => (ref06_Right_eq k x).symm)
noncomputable def ref06_add : (k : Nat) → (Ty.D (.pair (.slice T_api_Atom) T_api_Atom)) → Option (Ty.D (.slice T_api_Atom)) := fun (k : Nat) (x : (T_api_Atom.slice.pair T_api_Atom).D) => P.bind (ref06_Right k x.snd) fun (r : Bool) => P.cond (P.not r) (some x.fst) (P.bind (ref06_Has k (x.fst, x.snd)) fun (r : Bool) => P.cond r (some x.fst) (P.bind (P.iter k (fun (y : List (Int × Int) × Bool × Int) => P.cond (P.ilt y.snd.snd (P.len x.fst)) (P.cond (P.not y.snd.fst) (P.cond (P.inb y.snd.snd (P.len x.fst)) (P.bind (ref06_Less k (x.snd, P.get x.fst y.snd.snd ((0 : Int), (0 : Int)))) fun (r : Bool) => P.cond r (P.cond (P.room (P.add (P.len y.fst) (P.len [x.snd])) 16) (P.cond (P.inb y.snd.snd (P.len x.fst)) (P.cond (P.room (P.add (P.len (P.app y.fst [x.snd])) (P.len [P.get x.fst y.snd.snd ((0 : Int), (0 : Int))])) 16) (some (Sum.inl (P.app (P.app y.fst [x.snd]) [P.get x.fst y.snd.snd ((0 : Int), (0 : Int))], true, P.wrap IntKind.i64 (P.add y.snd.snd ((1 : Int)))))) none) none) none) (P.cond (P.inb y.snd.snd (P.len x.fst)) (P.cond (P.room (P.add (P.len y.fst) (P.len [P.get x.fst y.snd.snd ((0 : Int), (0 : Int))])) 16) (some (Sum.inl (P.app y.fst [P.get x.fst y.snd.snd ((0 : Int), (0 : Int))], y.snd.fst, P.wrap IntKind.i64 (P.add y.snd.snd ((1 : Int)))))) none) none)) none) (P.cond (P.inb y.snd.snd (P.len x.fst)) (P.cond (P.room (P.add (P.len y.fst) (P.len [P.get x.fst y.snd.snd ((0 : Int), (0 : Int))])) 16) (some (Sum.inl (P.app y.fst [P.get x.fst y.snd.snd ((0 : Int), (0 : Int))], y.snd.fst, P.wrap IntKind.i64 (P.add y.snd.snd ((1 : Int)))))) none) none)) (some (Sum.inr (Sum.inl (y.fst, y.snd.fst))))) ([], false, (0 : Int))) (P.either (fun (z : List (Int × Int) × Bool) => P.cond (P.not z.snd) (P.cond (P.room (P.add (P.len z.fst) (P.len [x.snd])) 16) (some (P.app z.fst [x.snd])) none) (some z.fst)) fun (r : List (Int × Int)) => some r)))
theorem ref06_add_eq (k : Nat) (x : (Ty.D (.pair (.slice T_api_Atom) T_api_Atom))) : evFn { T := T, specs := [(50, ⟨(.pair (.slice T_api_Atom) T_api_Atom), .bool, ref06_Has k⟩), (82, ⟨(.pair T_api_Atom T_api_Atom), .bool, ref06_Less k⟩), (95, ⟨T_api_Atom, .bool, ref06_Right k⟩)], codes := codes, k := k, inpl := [(92, ⟨T_api_Atom, 93, sortF⟩)], ins := [(88, T_api_Field, 48)], calm := [58] } 6 Try.f68 [(6, ⟨[.var 5 (.o (.st (.pair (.int .i64) (.int .i64)))), .var 6 (.d .bool), .var 7 (.d (.int .i64))], [], (some (0, [.var 5 (.o (.st (.pair (.int .i64) (.int .i64)))), .var 6 (.d .bool)]))⟩)] (.pair (.slice T_api_Atom) T_api_Atom) (.slice T_api_Atom) x = ref06_add k x := by kernel_rfl
theorem ref06_add_spec (k : Nat) : SpecOk Try.prog GG 68 ⟨(.pair (.slice T_api_Atom) T_api_Atom), (.slice T_api_Atom), ref06_add k⟩ :=
  fn_spec (envOk (E := { T := T, specs := [(50, ⟨(.pair (.slice T_api_Atom) T_api_Atom), .bool, ref06_Has k⟩), (82, ⟨(.pair T_api_Atom T_api_Atom), .bool, ref06_Less k⟩), (95, ⟨T_api_Atom, .bool, ref06_Right k⟩)], codes := codes, k := k, inpl := [(92, ⟨T_api_Atom, 93, sortF⟩)], ins := [(88, T_api_Field, 48)], calm := [58] }) tabOk (.cons (ref06_Has_spec k) f50_at f50_ok <| .cons (ref06_Less_spec k) f82_at f82_ok <| .cons (ref06_Right_spec k) f95_at f95_ok <| .nil) codesOk mixedOk (fun _ _ _ _ => trivial) (hi := inplOk) (hj := insOk)) f68_at (fun x => (ref06_add_eq k x).symm)
noncomputable def ref06_Norm : (k : Nat) → (Ty.D (.slice T_api_Atom)) → Option (Ty.D (.slice T_api_Atom)) := fun (k : Nat) (x : T_api_Atom.slice.D) => P.bind (P.iter k (fun (y : List (Int × Int) × Int) => P.cond (P.ilt y.snd (P.len x)) (P.cond (P.inb y.snd (P.len x)) (P.bind (ref06_add k (y.fst, P.get x y.snd ((0 : Int), (0 : Int)))) fun (r : List (Int × Int)) => some (Sum.inl (r, P.wrap IntKind.i64 (P.add y.snd ((1 : Int)))))) none) (some (Sum.inr (Sum.inl y.fst)))) ([], (0 : Int))) (P.either (fun (z : List (Int × Int)) => some z) fun (r : List (Int × Int)) => some r)
theorem ref06_Norm_eq (k : Nat) (x : (Ty.D (.slice T_api_Atom))) : evFn { T := T, specs := [(68, ⟨(.pair (.slice T_api_Atom) T_api_Atom), (.slice T_api_Atom), ref06_add k⟩)], codes := codes, k := k, inpl := [(92, ⟨T_api_Atom, 93, sortF⟩)], ins := [(88, T_api_Field, 48)], calm := [58] } 6 Try.f66 [(3, ⟨[.var 3 (.d (.slice (.st (.pair (.int .i64) (.int .i64))))), .var 4 (.d (.int .i64))], [], (some (0, [.var 3 (.d (.slice (.st (.pair (.int .i64) (.int .i64)))))]))⟩)] (.slice T_api_Atom) (.slice T_api_Atom) x = ref06_Norm k x := by kernel_rfl
theorem ref06_Norm_spec (k : Nat) : SpecOk Try.prog GG 66 ⟨(.slice T_api_Atom), (.slice T_api_Atom), ref06_Norm k⟩ :=
  fn_spec (envOk (E := { T := T, specs := [(68, ⟨(.pair (.slice T_api_Atom) T_api_Atom), (.slice T_api_Atom), ref06_add k⟩)], codes := codes, k := k, inpl := [(92, ⟨T_api_Atom, 93, sortF⟩)], ins := [(88, T_api_Field, 48)], calm := [58] }) tabOk (.cons (ref06_add_spec k) f68_at f68_ok <| .nil) codesOk mixedOk (fun _ _ _ _ => trivial) (hi := inplOk) (hj := insOk)) f66_at (fun x => (ref06_Norm_eq k x).symm)
noncomputable def ref06_May : (k : Nat) → (Ty.D (.slice T_api_Atom)) → Option (Ty.D .bool) := fun (k : Nat) (x : T_api_Atom.slice.D) => P.bind (ref06_Norm k x) fun (r : List (Int × Int)) => P.bind (ref06_Same k (x, r)) fun (r : Bool) => some r
theorem ref06_May_eq (k : Nat) (x : (Ty.D (.slice T_api_Atom))) : evFn { T := T, specs := [(20, ⟨(.pair (.slice T_api_Atom) (.slice T_api_Atom)), .bool, ref06_Same k⟩), (66, ⟨(.slice T_api_Atom), (.slice T_api_Atom), ref06_Norm k⟩)], codes := codes, k := k, inpl := [(92, ⟨T_api_Atom, 93, sortF⟩)], ins := [(88, T_api_Field, 48)], calm := [58] } 6 Try.f26 [] (.slice T_api_Atom) .bool x = ref06_May k x := by kernel_rfl
theorem ref06_May_spec (k : Nat) : SpecOk Try.prog GG 26 ⟨(.slice T_api_Atom), .bool, ref06_May k⟩ :=
  fn_spec (envOk (E := { T := T, specs := [(20, ⟨(.pair (.slice T_api_Atom) (.slice T_api_Atom)), .bool, ref06_Same k⟩), (66, ⟨(.slice T_api_Atom), (.slice T_api_Atom), ref06_Norm k⟩)], codes := codes, k := k, inpl := [(92, ⟨T_api_Atom, 93, sortF⟩)], ins := [(88, T_api_Field, 48)], calm := [58] }) tabOk (.cons (ref06_Same_spec k) f20_at f20_ok <| .cons (ref06_Norm_spec k) f66_at f66_ok <| .nil) codesOk mixedOk (fun _ _ _ _ => trivial) (hi := inplOk) (hj := insOk)) f26_at (fun x => (ref06_May_eq k x).symm)
noncomputable def ref07_May : (k : Nat) → (Ty.D T_api_Shape) → Option (Ty.D .bool) := fun (k : Nat) (x : T_api_Shape.D) => P.bind (P.iter k (fun (y : Int) => P.cond (P.ilt y (P.len x.fst)) (P.cond (P.inb y (P.len x.fst)) (P.bind (ref06_May k (P.get x.fst y ((ByteArray.mk #[]), false, [])).snd.snd) fun (r : Bool) => P.cond (P.not r) (some (Sum.inr (Sum.inr false))) (P.cond (P.ilt ((0 : Int)) y) (P.cond (P.inb (P.wrap IntKind.i64 (P.sub y ((1 : Int)))) (P.len x.fst)) (P.cond (P.inb y (P.len x.fst)) (P.cond (P.not (P.slt (P.get x.fst (P.wrap IntKind.i64 (P.sub y ((1 : Int)))) ((ByteArray.mk #[]), false, [])).fst (P.get x.fst y ((ByteArray.mk #[]), false, [])).fst)) (some (Sum.inr (Sum.inr false))) (some (Sum.inl (P.wrap IntKind.i64 (P.add y ((1 : Int))))))) none) none) (some (Sum.inl (P.wrap IntKind.i64 (P.add y ((1 : Int)))))))) none) (some (Sum.inr (Sum.inl PUnit.unit)))) ((0 : Int))) (P.either (fun (z : PUnit) => P.bind (ref06_May k x.snd) fun (r : Bool) => some r) fun (r : Bool) => some r)
theorem ref07_May_eq (k : Nat) (x : (Ty.D T_api_Shape)) : evFn { T := T, specs := [(26, ⟨(.slice T_api_Atom), .bool, ref06_May k⟩)], codes := codes, k := k, inpl := [(92, ⟨T_api_Atom, 93, sortF⟩)], ins := [(88, T_api_Field, 48)], calm := [58] } 6 Try.f19 [(2, ⟨[.var 3 (.d (.int .i64))], [], (some (0, []))⟩)] T_api_Shape .bool x = ref07_May k x := by kernel_rfl
theorem ref07_May_spec (k : Nat) : SpecOk Try.prog GG 19 ⟨T_api_Shape, .bool, ref07_May k⟩ :=
  fn_spec (envOk (E := { T := T, specs := [(26, ⟨(.slice T_api_Atom), .bool, ref06_May k⟩)], codes := codes, k := k, inpl := [(92, ⟨T_api_Atom, 93, sortF⟩)], ins := [(88, T_api_Field, 48)], calm := [58] }) tabOk (.cons (ref06_May_spec k) f26_at f26_ok <| .nil) codesOk mixedOk (fun _ _ _ _ => trivial) (hi := inplOk) (hj := insOk)) f19_at (fun x => (ref07_May_eq k x).symm)
noncomputable def ref07_Same : (k : Nat) → (Ty.D (.pair T_api_Shape T_api_Shape)) → Option (Ty.D .bool) := fun (k : Nat) (x : (T_api_Shape.pair T_api_Shape).D) => P.cond (P.not (P.ieq (P.len x.fst.fst) (P.len x.snd.fst))) (some false) (P.bind (ref06_Same k (x.fst.snd, x.snd.snd)) fun (r : Bool) => P.cond (P.not r) (some false) (P.bind (P.iter k (fun (y : Int) => P.cond (P.ilt y (P.len x.fst.fst)) (P.cond (P.inb y (P.len x.fst.fst)) (P.cond (P.inb y (P.len x.snd.fst)) (P.cond (P.not (P.seq (P.get x.fst.fst y ((ByteArray.mk #[]), false, [])).fst (P.get x.snd.fst y ((ByteArray.mk #[]), false, [])).fst)) (some (Sum.inr (Sum.inr false))) (P.cond (P.not (P.beq (P.get x.fst.fst y ((ByteArray.mk #[]), false, [])).snd.fst (P.get x.snd.fst y ((ByteArray.mk #[]), false, [])).snd.fst)) (some (Sum.inr (Sum.inr false))) (P.bind (ref06_Same k ((P.get x.fst.fst y ((ByteArray.mk #[]), false, [])).snd.snd, (P.get x.snd.fst y ((ByteArray.mk #[]), false, [])).snd.snd)) fun (r : Bool) => P.cond (P.not r) (some (Sum.inr (Sum.inr false))) (some (Sum.inl (P.wrap IntKind.i64 (P.add y ((1 : Int))))))))) none) none) (some (Sum.inr (Sum.inl PUnit.unit)))) ((0 : Int))) (P.either (fun (z : PUnit) => some true) fun (r : Bool) => some r)))
theorem ref07_Same_eq (k : Nat) (x : (Ty.D (.pair T_api_Shape T_api_Shape))) : evFn { T := T, specs := [(20, ⟨(.pair (.slice T_api_Atom) (.slice T_api_Atom)), .bool, ref06_Same k⟩)], codes := codes, k := k, inpl := [(92, ⟨T_api_Atom, 93, sortF⟩)], ins := [(88, T_api_Field, 48)], calm := [58] } 6 Try.f21 [(4, ⟨[.var 5 (.d (.int .i64))], [], (some (0, []))⟩)] (.pair T_api_Shape T_api_Shape) .bool x = ref07_Same k x := by kernel_rfl
theorem ref07_Same_spec (k : Nat) : SpecOk Try.prog GG 21 ⟨(.pair T_api_Shape T_api_Shape), .bool, ref07_Same k⟩ :=
  fn_spec (envOk (E := { T := T, specs := [(20, ⟨(.pair (.slice T_api_Atom) (.slice T_api_Atom)), .bool, ref06_Same k⟩)], codes := codes, k := k, inpl := [(92, ⟨T_api_Atom, 93, sortF⟩)], ins := [(88, T_api_Field, 48)], calm := [58] }) tabOk (.cons (ref06_Same_spec k) f20_at f20_ok <| .nil) codesOk mixedOk (fun _ _ _ _ => trivial) (hi := inplOk) (hj := insOk)) f21_at (fun x => (ref07_Same_eq k x).symm)
noncomputable def ref06_Union : (k : Nat) → (Ty.D (.pair (.slice T_api_Atom) (.slice T_api_Atom))) → Option (Ty.D (.slice T_api_Atom)) := fun (k : Nat) (x : (T_api_Atom.slice.pair T_api_Atom.slice).D) => P.bind (ref06_Norm k x.fst) fun (r : List (Int × Int)) => P.bind (P.iter k (fun (y : List (Int × Int) × Int) => P.cond (P.ilt y.snd (P.len x.snd)) (P.cond (P.inb y.snd (P.len x.snd)) (P.bind (ref06_add k (y.fst, P.get x.snd y.snd ((0 : Int), (0 : Int)))) fun (r : List (Int × Int)) => some (Sum.inl (r, P.wrap IntKind.i64 (P.add y.snd ((1 : Int)))))) none) (some (Sum.inr (Sum.inl y.fst)))) (r, (0 : Int))) (P.either (fun (z : List (Int × Int)) => some z) fun (r : List (Int × Int)) => some r)
theorem ref06_Union_eq (k : Nat) (x : (Ty.D (.pair (.slice T_api_Atom) (.slice T_api_Atom)))) : evFn { T := T, specs := [(66, ⟨(.slice T_api_Atom), (.slice T_api_Atom), ref06_Norm k⟩), (68, ⟨(.pair (.slice T_api_Atom) T_api_Atom), (.slice T_api_Atom), ref06_add k⟩)], codes := codes, k := k, inpl := [(92, ⟨T_api_Atom, 93, sortF⟩)], ins := [(88, T_api_Field, 48)], calm := [58] } 6 Try.f31 [(3, ⟨[.var 5 (.d (.slice (.st (.pair (.int .i64) (.int .i64))))), .var 6 (.d (.int .i64))], [], (some (0, [.var 5 (.d (.slice (.st (.pair (.int .i64) (.int .i64)))))]))⟩)] (.pair (.slice T_api_Atom) (.slice T_api_Atom)) (.slice T_api_Atom) x = ref06_Union k x := by kernel_rfl
theorem ref06_Union_spec (k : Nat) : SpecOk Try.prog GG 31 ⟨(.pair (.slice T_api_Atom) (.slice T_api_Atom)), (.slice T_api_Atom), ref06_Union k⟩ :=
  fn_spec (envOk (E := { T := T, specs := [(66, ⟨(.slice T_api_Atom), (.slice T_api_Atom), ref06_Norm k⟩), (68, ⟨(.pair (.slice T_api_Atom) T_api_Atom), (.slice T_api_Atom), ref06_add k⟩)], codes := codes, k := k, inpl := [(92, ⟨T_api_Atom, 93, sortF⟩)], ins := [(88, T_api_Field, 48)], calm := [58] }) tabOk (.cons (ref06_Norm_spec k) f66_at f66_ok <| .cons (ref06_add_spec k) f68_at f68_ok <| .nil) codesOk mixedOk (fun _ _ _ _ => trivial) (hi := inplOk) (hj := insOk)) f31_at (fun x => (ref06_Union_eq k x).symm)
noncomputable def ref07_With : (k : Nat) → (Ty.D (.pair T_api_Shape T_api_Field)) → Option (Ty.D T_api_Shape) := fun (k : Nat) (x : (T_api_Shape.pair T_api_Field).D) => P.bind (P.iter k (fun (y : Bool × Int × List (ByteArray × Bool × List (Int × Int)) × List (Int × Int)) => P.cond (P.ilt y.snd.fst (P.len x.fst.fst)) (P.cond (P.not y.fst) (P.cond (P.inb y.snd.fst (P.len x.fst.fst)) (P.cond (P.sle x.snd.fst (P.get x.fst.fst y.snd.fst ((ByteArray.mk #[]), false, [])).fst) (P.cond (P.room (P.add (P.len y.snd.snd.fst) (P.len [x.snd])) 48) (P.cond (P.inb y.snd.fst (P.len x.fst.fst)) (P.cond (P.not (P.seq (P.get x.fst.fst y.snd.fst ((ByteArray.mk #[]), false, [])).fst x.snd.fst)) (P.cond (P.inb y.snd.fst (P.len x.fst.fst)) (P.cond (P.room (P.add (P.len (P.app y.snd.snd.fst [x.snd])) (P.len [P.get x.fst.fst y.snd.fst ((ByteArray.mk #[]), false, [])])) 48) (some (Sum.inl (true, P.wrap IntKind.i64 (P.add y.snd.fst ((1 : Int))), P.app (P.app y.snd.snd.fst [x.snd]) [P.get x.fst.fst y.snd.fst ((ByteArray.mk #[]), false, [])], y.snd.snd.snd))) none) none) (some (Sum.inl (true, P.wrap IntKind.i64 (P.add y.snd.fst ((1 : Int))), P.app y.snd.snd.fst [x.snd], y.snd.snd.snd)))) none) none) (P.cond (P.inb y.snd.fst (P.len x.fst.fst)) (P.cond (P.not (P.seq (P.get x.fst.fst y.snd.fst ((ByteArray.mk #[]), false, [])).fst x.snd.fst)) (P.cond (P.inb y.snd.fst (P.len x.fst.fst)) (P.cond (P.room (P.add (P.len y.snd.snd.fst) (P.len [P.get x.fst.fst y.snd.fst ((ByteArray.mk #[]), false, [])])) 48) (some (Sum.inl (y.fst, P.wrap IntKind.i64 (P.add y.snd.fst ((1 : Int))), P.app y.snd.snd.fst [P.get x.fst.fst y.snd.fst ((ByteArray.mk #[]), false, [])], y.snd.snd.snd))) none) none) (some (Sum.inl (y.fst, P.wrap IntKind.i64 (P.add y.snd.fst ((1 : Int))), y.snd.snd.fst, y.snd.snd.snd)))) none)) none) (P.cond (P.inb y.snd.fst (P.len x.fst.fst)) (P.cond (P.not (P.seq (P.get x.fst.fst y.snd.fst ((ByteArray.mk #[]), false, [])).fst x.snd.fst)) (P.cond (P.inb y.snd.fst (P.len x.fst.fst)) (P.cond (P.room (P.add (P.len y.snd.snd.fst) (P.len [P.get x.fst.fst y.snd.fst ((ByteArray.mk #[]), false, [])])) 48) (some (Sum.inl (y.fst, P.wrap IntKind.i64 (P.add y.snd.fst ((1 : Int))), P.app y.snd.snd.fst [P.get x.fst.fst y.snd.fst ((ByteArray.mk #[]), false, [])], y.snd.snd.snd))) none) none) (some (Sum.inl (y.fst, P.wrap IntKind.i64 (P.add y.snd.fst ((1 : Int))), y.snd.snd.fst, y.snd.snd.snd)))) none)) (some (Sum.inr (Sum.inl (y.fst, y.snd.snd.fst, y.snd.snd.snd))))) (false, (0 : Int), [], x.fst.snd)) (P.either (fun (z : Bool × List (ByteArray × Bool × List (Int × Int)) × List (Int × Int)) => P.cond (P.not z.fst) (P.cond (P.room (P.add (P.len z.snd.fst) (P.len [x.snd])) 48) (some (P.app z.snd.fst [x.snd], z.snd.snd)) none) (some (z.snd.fst, z.snd.snd))) fun (r : List (ByteArray × Bool × List (Int × Int)) × List (Int × Int)) => some r)
theorem ref07_With_eq (k : Nat) (x : (Ty.D (.pair T_api_Shape T_api_Field))) : evFn { T := T, specs := [], codes := codes, k := k, inpl := [(92, ⟨T_api_Atom, 93, sortF⟩)], ins := [(88, T_api_Field, 48)], calm := [58] } 6 Try.f62 [(4, ⟨[.var 6 (.d .bool), .var 7 (.d (.int .i64)), .box 5 [] (.s (.p (.o (.st (.pair .str (.pair .bool (.slice (.st (.pair (.int .i64) (.int .i64)))))))) (.d (.slice (.st (.pair (.int .i64) (.int .i64)))))))], [], (some (0, [.var 6 (.d .bool), .box 5 [] (.s (.p (.o (.st (.pair .str (.pair .bool (.slice (.st (.pair (.int .i64) (.int .i64)))))))) (.d (.slice (.st (.pair (.int .i64) (.int .i64)))))))]))⟩)] (.pair T_api_Shape T_api_Field) T_api_Shape x = ref07_With k x := by kernel_rfl
theorem ref07_With_spec (k : Nat) : SpecOk Try.prog GG 62 ⟨(.pair T_api_Shape T_api_Field), T_api_Shape, ref07_With k⟩ :=
  fn_spec (envOk (E := { T := T, specs := [], codes := codes, k := k, inpl := [(92, ⟨T_api_Atom, 93, sortF⟩)], ins := [(88, T_api_Field, 48)], calm := [58] }) tabOk (.nil) codesOk mixedOk (fun _ _ _ _ => trivial) (hi := inplOk) (hj := insOk)) f62_at (fun x => (ref07_With_eq k x).symm)
noncomputable def ref07_Join : (k : Nat) → (Ty.D (.pair T_api_Shape T_api_Shape)) → Option (Ty.D T_api_Shape) := fun (k : Nat) (x : (T_api_Shape.pair T_api_Shape).D) => P.bind (ref07_May k x.fst) fun (r : Bool) => P.cond (P.not r) (some ([], [])) (P.bind (ref07_May k x.snd) fun (r : Bool) => P.cond (P.not r) (some ([], [])) (P.bind (ref06_Union k (x.fst.snd, x.snd.snd)) fun (r : List (Int × Int)) => P.bind (P.iter k (fun (y : Int × List (ByteArray × Bool × List (Int × Int)) × List (Int × Int)) => P.cond (P.ilt y.fst (P.wrap IntKind.i64 (P.add (P.len x.fst.fst) (P.len x.snd.fst)))) (P.cond (P.ilt y.fst (P.len x.fst.fst)) (P.cond (P.inb y.fst (P.len x.fst.fst)) (P.bind (ref07_Get k (x.fst, (P.get x.fst.fst y.fst ((ByteArray.mk #[]), false, [])).fst)) fun (r : (ByteArray × Bool × List (Int × Int)) × Bool) => P.bind (ref07_Get k (x.snd, (P.get x.fst.fst y.fst ((ByteArray.mk #[]), false, [])).fst)) fun (r_1 : (ByteArray × Bool × List (Int × Int)) × Bool) => P.cond r.snd (P.cond r_1.snd (P.cond r.fst.snd.fst (P.bind (ref06_Union k (r.fst.snd.snd, r_1.fst.snd.snd)) fun (r : List (Int × Int)) => P.bind (ref07_With k (y.snd, (P.get x.fst.fst y.fst ((ByteArray.mk #[]), false, [])).fst, r_1.fst.snd.fst, r)) fun (r : List (ByteArray × Bool × List (Int × Int)) × List (Int × Int)) => some (Sum.inl (P.wrap IntKind.i64 (P.add y.fst ((1 : Int))), r))) (P.bind (ref06_Union k (r.fst.snd.snd, r_1.fst.snd.snd)) fun (r : List (Int × Int)) => P.bind (ref07_With k (y.snd, (P.get x.fst.fst y.fst ((ByteArray.mk #[]), false, [])).fst, false, r)) fun (r : List (ByteArray × Bool × List (Int × Int)) × List (Int × Int)) => some (Sum.inl (P.wrap IntKind.i64 (P.add y.fst ((1 : Int))), r)))) (P.bind (ref06_Union k (r.fst.snd.snd, r_1.fst.snd.snd)) fun (r : List (Int × Int)) => P.bind (ref07_With k (y.snd, (P.get x.fst.fst y.fst ((ByteArray.mk #[]), false, [])).fst, false, r)) fun (r : List (ByteArray × Bool × List (Int × Int)) × List (Int × Int)) => some (Sum.inl (P.wrap IntKind.i64 (P.add y.fst ((1 : Int))), r)))) (P.bind (ref06_Union k (r.fst.snd.snd, r_1.fst.snd.snd)) fun (r : List (Int × Int)) => P.bind (ref07_With k (y.snd, (P.get x.fst.fst y.fst ((ByteArray.mk #[]), false, [])).fst, false, r)) fun (r : List (ByteArray × Bool × List (Int × Int)) × List (Int × Int)) => some (Sum.inl (P.wrap IntKind.i64 (P.add y.fst ((1 : Int))), r)))) none) (P.cond (P.inb (P.wrap IntKind.i64 (P.sub y.fst (P.len x.fst.fst))) (P.len x.snd.fst)) (P.bind (ref07_Get k (x.fst, (P.get x.snd.fst (P.wrap IntKind.i64 (P.sub y.fst (P.len x.fst.fst))) ((ByteArray.mk #[]), false, [])).fst)) fun (r : (ByteArray × Bool × List (Int × Int)) × Bool) => P.bind (ref07_Get k (x.snd, (P.get x.snd.fst (P.wrap IntKind.i64 (P.sub y.fst (P.len x.fst.fst))) ((ByteArray.mk #[]), false, [])).fst)) fun (r_1 : (ByteArray × Bool × List (Int × Int)) × Bool) => P.cond r.snd (P.cond r_1.snd (P.cond r.fst.snd.fst (P.bind (ref06_Union k (r.fst.snd.snd, r_1.fst.snd.snd)) fun (r : List (Int × Int)) => P.bind (ref07_With k (y.snd, (P.get x.snd.fst (P.wrap IntKind.i64 (P.sub y.fst (P.len x.fst.fst))) ((ByteArray.mk #[]), false, [])).fst, r_1.fst.snd.fst, r)) fun (r : List (ByteArray × Bool × List (Int × Int)) × List (Int × Int)) => some (Sum.inl (P.wrap IntKind.i64 (P.add y.fst ((1 : Int))), r))) (P.bind (ref06_Union k (r.fst.snd.snd, r_1.fst.snd.snd)) fun (r : List (Int × Int)) => P.bind (ref07_With k (y.snd, (P.get x.snd.fst (P.wrap IntKind.i64 (P.sub y.fst (P.len x.fst.fst))) ((ByteArray.mk #[]), false, [])).fst, false, r)) fun (r : List (ByteArray × Bool × List (Int × Int)) × List (Int × Int)) => some (Sum.inl (P.wrap IntKind.i64 (P.add y.fst ((1 : Int))), r)))) (P.bind (ref06_Union k (r.fst.snd.snd, r_1.fst.snd.snd)) fun (r : List (Int × Int)) => P.bind (ref07_With k (y.snd, (P.get x.snd.fst (P.wrap IntKind.i64 (P.sub y.fst (P.len x.fst.fst))) ((ByteArray.mk #[]), false, [])).fst, false, r)) fun (r : List (ByteArray × Bool × List (Int × Int)) × List (Int × Int)) => some (Sum.inl (P.wrap IntKind.i64 (P.add y.fst ((1 : Int))), r)))) (P.bind (ref06_Union k (r.fst.snd.snd, r_1.fst.snd.snd)) fun (r : List (Int × Int)) => P.bind (ref07_With k (y.snd, (P.get x.snd.fst (P.wrap IntKind.i64 (P.sub y.fst (P.len x.fst.fst))) ((ByteArray.mk #[]), false, [])).fst, false, r)) fun (r : List (ByteArray × Bool × List (Int × Int)) × List (Int × Int)) => some (Sum.inl (P.wrap IntKind.i64 (P.add y.fst ((1 : Int))), r)))) none)) (some (Sum.inr (Sum.inl y.snd)))) ((0 : Int), [], r)) (P.either (fun (z : List (ByteArray × Bool × List (Int × Int)) × List (Int × Int)) => some z) fun (r : List (ByteArray × Bool × List (Int × Int)) × List (Int × Int)) => some r)))
theorem ref07_Join_eq (k : Nat) (x : (Ty.D (.pair T_api_Shape T_api_Shape))) : evFn { T := T, specs := [(17, ⟨(.pair T_api_Shape .str), (.pair T_api_Field .bool), ref07_Get k⟩), (19, ⟨T_api_Shape, .bool, ref07_May k⟩), (31, ⟨(.pair (.slice T_api_Atom) (.slice T_api_Atom)), (.slice T_api_Atom), ref06_Union k⟩), (62, ⟨(.pair T_api_Shape T_api_Field), T_api_Shape, ref07_With k⟩)], codes := codes, k := k, inpl := [(92, ⟨T_api_Atom, 93, sortF⟩)], ins := [(88, T_api_Field, 48)], calm := [58] } 6 Try.f23 [(5, ⟨[.var 6 (.d (.int .i64)), .box 5 [] (.d (.st (.pair (.slice (.st (.pair .str (.pair .bool (.slice (.st (.pair (.int .i64) (.int .i64)))))))) (.slice (.st (.pair (.int .i64) (.int .i64)))))))], [], (some (0, [.box 5 [] (.d (.st (.pair (.slice (.st (.pair .str (.pair .bool (.slice (.st (.pair (.int .i64) (.int .i64)))))))) (.slice (.st (.pair (.int .i64) (.int .i64)))))))]))⟩)] (.pair T_api_Shape T_api_Shape) T_api_Shape x = ref07_Join k x := by kernel_rfl
theorem ref07_Join_spec (k : Nat) : SpecOk Try.prog GG 23 ⟨(.pair T_api_Shape T_api_Shape), T_api_Shape, ref07_Join k⟩ :=
  fn_spec (envOk (E := { T := T, specs := [(17, ⟨(.pair T_api_Shape .str), (.pair T_api_Field .bool), ref07_Get k⟩), (19, ⟨T_api_Shape, .bool, ref07_May k⟩), (31, ⟨(.pair (.slice T_api_Atom) (.slice T_api_Atom)), (.slice T_api_Atom), ref06_Union k⟩), (62, ⟨(.pair T_api_Shape T_api_Field), T_api_Shape, ref07_With k⟩)], codes := codes, k := k, inpl := [(92, ⟨T_api_Atom, 93, sortF⟩)], ins := [(88, T_api_Field, 48)], calm := [58] }) tabOk (.cons (ref07_Get_spec k) f17_at f17_ok <| .cons (ref07_May_spec k) f19_at f19_ok <| .cons (ref06_Union_spec k) f31_at f31_ok <| .cons (ref07_With_spec k) f62_at f62_ok <| .nil) codesOk mixedOk (fun _ _ _ _ => trivial) (hi := inplOk) (hj := insOk)) f23_at (fun x => (ref07_Join_eq k x).symm)
noncomputable def ref06_Within : (k : Nat) → (Ty.D (.pair (.slice T_api_Atom) (.slice T_api_Atom))) → Option (Ty.D .bool) := fun (k : Nat) (x : (T_api_Atom.slice.pair T_api_Atom.slice).D) => P.bind (P.iter k (fun (y : Int) => P.cond (P.ilt y (P.len x.fst)) (P.cond (P.inb y (P.len x.fst)) (P.bind (ref06_Has k (x.snd, P.get x.fst y ((0 : Int), (0 : Int)))) fun (r : Bool) => P.cond (P.not r) (some (Sum.inr (Sum.inr false))) (some (Sum.inl (P.wrap IntKind.i64 (P.add y ((1 : Int))))))) none) (some (Sum.inr (Sum.inl PUnit.unit)))) ((0 : Int))) (P.either (fun (z : PUnit) => some true) fun (r : Bool) => some r)
theorem ref06_Within_eq (k : Nat) (x : (Ty.D (.pair (.slice T_api_Atom) (.slice T_api_Atom)))) : evFn { T := T, specs := [(50, ⟨(.pair (.slice T_api_Atom) T_api_Atom), .bool, ref06_Has k⟩)], codes := codes, k := k, inpl := [(92, ⟨T_api_Atom, 93, sortF⟩)], ins := [(88, T_api_Field, 48)], calm := [58] } 6 Try.f47 [(2, ⟨[.var 5 (.d (.int .i64))], [], (some (0, []))⟩)] (.pair (.slice T_api_Atom) (.slice T_api_Atom)) .bool x = ref06_Within k x := by kernel_rfl
theorem ref06_Within_spec (k : Nat) : SpecOk Try.prog GG 47 ⟨(.pair (.slice T_api_Atom) (.slice T_api_Atom)), .bool, ref06_Within k⟩ :=
  fn_spec (envOk (E := { T := T, specs := [(50, ⟨(.pair (.slice T_api_Atom) T_api_Atom), .bool, ref06_Has k⟩)], codes := codes, k := k, inpl := [(92, ⟨T_api_Atom, 93, sortF⟩)], ins := [(88, T_api_Field, 48)], calm := [58] }) tabOk (.cons (ref06_Has_spec k) f50_at f50_ok <| .nil) codesOk mixedOk (fun _ _ _ _ => trivial) (hi := inplOk) (hj := insOk)) f47_at (fun x => (ref06_Within_eq k x).symm)
noncomputable def ref07_Within : (k : Nat) → (Ty.D (.pair T_api_Shape T_api_Shape)) → Option (Ty.D .bool) := fun (k : Nat) (x : (T_api_Shape.pair T_api_Shape).D) => P.bind (ref07_May k x.fst) fun (r : Bool) => P.cond (P.not r) (some false) (P.bind (ref07_May k x.snd) fun (r : Bool) => P.cond (P.not r) (some false) (P.bind (ref06_Within k (x.fst.snd, x.snd.snd)) fun (r : Bool) => P.cond (P.not r) (some false) (P.bind (P.iter k (fun (y : Int) => P.cond (P.ilt y (P.len x.fst.fst)) (P.cond (P.inb y (P.len x.fst.fst)) (P.bind (ref07_Get k (x.snd, (P.get x.fst.fst y ((ByteArray.mk #[]), false, [])).fst)) fun (r : (ByteArray × Bool × List (Int × Int)) × Bool) => P.cond (P.not r.snd) (some (Sum.inr (Sum.inr false))) (P.cond (P.inb y (P.len x.fst.fst)) (P.bind (ref06_Within k ((P.get x.fst.fst y ((ByteArray.mk #[]), false, [])).snd.snd, r.fst.snd.snd)) fun (r_1 : Bool) => P.cond (P.not r_1) (some (Sum.inr (Sum.inr false))) (P.cond r.fst.snd.fst (P.cond (P.inb y (P.len x.fst.fst)) (P.cond (P.not (P.get x.fst.fst y ((ByteArray.mk #[]), false, [])).snd.fst) (some (Sum.inr (Sum.inr false))) (some (Sum.inl (P.wrap IntKind.i64 (P.add y ((1 : Int))))))) none) (some (Sum.inl (P.wrap IntKind.i64 (P.add y ((1 : Int)))))))) none)) none) (some (Sum.inr (Sum.inl PUnit.unit)))) ((0 : Int))) (P.either (fun (z : PUnit) => P.bind (P.iter k (fun (y : Int) => P.cond (P.ilt y (P.len x.snd.fst)) (P.cond (P.inb y (P.len x.snd.fst)) (P.bind (ref07_Get k (x.fst, (P.get x.snd.fst y ((ByteArray.mk #[]), false, [])).fst)) fun (r : (ByteArray × Bool × List (Int × Int)) × Bool) => P.cond (P.inb y (P.len x.snd.fst)) (P.cond (P.get x.snd.fst y ((ByteArray.mk #[]), false, [])).snd.fst (P.cond (P.not r.snd) (some (Sum.inr (Sum.inr false))) (some (Sum.inl (P.wrap IntKind.i64 (P.add y ((1 : Int))))))) (some (Sum.inl (P.wrap IntKind.i64 (P.add y ((1 : Int))))))) none) none) (some (Sum.inr (Sum.inl PUnit.unit)))) ((0 : Int))) (P.either (fun (z : PUnit) => some true) fun (r : Bool) => some r)) fun (r : Bool) => some r))))
theorem ref07_Within_eq (k : Nat) (x : (Ty.D (.pair T_api_Shape T_api_Shape))) : evFn { T := T, specs := [(17, ⟨(.pair T_api_Shape .str), (.pair T_api_Field .bool), ref07_Get k⟩), (19, ⟨T_api_Shape, .bool, ref07_May k⟩), (47, ⟨(.pair (.slice T_api_Atom) (.slice T_api_Atom)), .bool, ref06_Within k⟩)], codes := codes, k := k, inpl := [(92, ⟨T_api_Atom, 93, sortF⟩)], ins := [(88, T_api_Field, 48)], calm := [58] } 6 Try.f25 [(4, ⟨[.var 5 (.d (.int .i64))], [], (some (0, []))⟩), (10, ⟨[.var 8 (.d (.int .i64))], [], (some (2, []))⟩)] (.pair T_api_Shape T_api_Shape) .bool x = ref07_Within k x := by kernel_rfl
theorem ref07_Within_spec (k : Nat) : SpecOk Try.prog GG 25 ⟨(.pair T_api_Shape T_api_Shape), .bool, ref07_Within k⟩ :=
  fn_spec (envOk (E := { T := T, specs := [(17, ⟨(.pair T_api_Shape .str), (.pair T_api_Field .bool), ref07_Get k⟩), (19, ⟨T_api_Shape, .bool, ref07_May k⟩), (47, ⟨(.pair (.slice T_api_Atom) (.slice T_api_Atom)), .bool, ref06_Within k⟩)], codes := codes, k := k, inpl := [(92, ⟨T_api_Atom, 93, sortF⟩)], ins := [(88, T_api_Field, 48)], calm := [58] }) tabOk (.cons (ref07_Get_spec k) f17_at f17_ok <| .cons (ref07_May_spec k) f19_at f19_ok <| .cons (ref06_Within_spec k) f47_at f47_ok <| .nil) codesOk mixedOk (fun _ _ _ _ => trivial) (hi := inplOk) (hj := insOk)) f25_at (fun x => (ref07_Within_eq k x).symm)
noncomputable def law07_ObjectTells : (k : Nat) → (Ty.D (.pair T_api_Shape (.pair T_api_Shape .str))) → Option (Ty.D .bool) := fun (k : Nat) (x : (T_api_Shape.pair (T_api_Shape.pair Ty.str)).D) => P.bind (law07_small k x.fst) fun (r : Bool) => P.cond (P.not r) (P.bind (law07_fixed k PUnit.unit) fun (r : Bool) => some r) (P.bind (law07_small k x.snd.fst) fun (r : Bool) => P.cond (P.not r) (P.bind (law07_fixed k PUnit.unit) fun (r : Bool) => some r) (P.bind (object_Get k (x.fst, x.snd.snd)) fun (r : (ByteArray × Bool × List (Int × Int)) × Bool) => P.bind (ref07_Get k (x.fst, x.snd.snd)) fun (r_1 : (ByteArray × Bool × List (Int × Int)) × Bool) => P.bind (law07_fixed k PUnit.unit) fun (r_2 : Bool) => P.cond r_2 (P.bind (object_May k x.fst) fun (r_3 : Bool) => P.bind (ref07_May k x.fst) fun (r_4 : Bool) => P.cond (P.beq r_3 r_4) (P.cond (P.seq r.fst.fst r_1.fst.fst) (P.cond (P.beq r.fst.snd.fst r_1.fst.snd.fst) (P.bind (ref06_Same k (r.fst.snd.snd, r_1.fst.snd.snd)) fun (r_5 : Bool) => P.cond r_5 (P.cond (P.beq r.snd r_1.snd) (P.bind (object_Join k (x.fst, x.snd.fst)) fun (r : List (ByteArray × Bool × List (Int × Int)) × List (Int × Int)) => P.bind (ref07_Join k (x.fst, x.snd.fst)) fun (r_6 : List (ByteArray × Bool × List (Int × Int)) × List (Int × Int)) => P.bind (ref07_Same k (r, r_6)) fun (r : Bool) => P.cond r (P.bind (object_Within k (x.fst, x.snd.fst)) fun (r : Bool) => P.bind (ref07_Within k (x.fst, x.snd.fst)) fun (r_7 : Bool) => some (P.beq r r_7)) (some false)) (some false)) (some false)) (some false)) (some false)) (some false)) (some false)))
theorem law07_ObjectTells_eq (k : Nat) (x : (Ty.D (.pair T_api_Shape (.pair T_api_Shape .str)))) : evFn { T := T, specs := [(14, ⟨T_api_Shape, .bool, law07_small k⟩), (15, ⟨.unit, .bool, law07_fixed k⟩), (16, ⟨(.pair T_api_Shape .str), (.pair T_api_Field .bool), object_Get k⟩), (17, ⟨(.pair T_api_Shape .str), (.pair T_api_Field .bool), ref07_Get k⟩), (18, ⟨T_api_Shape, .bool, object_May k⟩), (19, ⟨T_api_Shape, .bool, ref07_May k⟩), (20, ⟨(.pair (.slice T_api_Atom) (.slice T_api_Atom)), .bool, ref06_Same k⟩), (21, ⟨(.pair T_api_Shape T_api_Shape), .bool, ref07_Same k⟩), (22, ⟨(.pair T_api_Shape T_api_Shape), T_api_Shape, object_Join k⟩), (23, ⟨(.pair T_api_Shape T_api_Shape), T_api_Shape, ref07_Join k⟩), (24, ⟨(.pair T_api_Shape T_api_Shape), .bool, object_Within k⟩), (25, ⟨(.pair T_api_Shape T_api_Shape), .bool, ref07_Within k⟩), (56, ⟨(.slice T_api_Atom), (.slice T_api_Atom), slices_Clone_api_Atom_api_Atom k⟩)], codes := codes, k := k, inpl := [(92, ⟨T_api_Atom, 93, sortF⟩)], ins := [(88, T_api_Field, 48)], calm := [58] } 6 Try.f3 [] (.pair T_api_Shape (.pair T_api_Shape .str)) .bool x = law07_ObjectTells k x := by kernel_rfl
theorem law07_ObjectTells_spec (k : Nat) : SpecOk Try.prog GG 3 ⟨(.pair T_api_Shape (.pair T_api_Shape .str)), .bool, law07_ObjectTells k⟩ :=
  fn_spec (envOk (E := { T := T, specs := [(14, ⟨T_api_Shape, .bool, law07_small k⟩), (15, ⟨.unit, .bool, law07_fixed k⟩), (16, ⟨(.pair T_api_Shape .str), (.pair T_api_Field .bool), object_Get k⟩), (17, ⟨(.pair T_api_Shape .str), (.pair T_api_Field .bool), ref07_Get k⟩), (18, ⟨T_api_Shape, .bool, object_May k⟩), (19, ⟨T_api_Shape, .bool, ref07_May k⟩), (20, ⟨(.pair (.slice T_api_Atom) (.slice T_api_Atom)), .bool, ref06_Same k⟩), (21, ⟨(.pair T_api_Shape T_api_Shape), .bool, ref07_Same k⟩), (22, ⟨(.pair T_api_Shape T_api_Shape), T_api_Shape, object_Join k⟩), (23, ⟨(.pair T_api_Shape T_api_Shape), T_api_Shape, ref07_Join k⟩), (24, ⟨(.pair T_api_Shape T_api_Shape), .bool, object_Within k⟩), (25, ⟨(.pair T_api_Shape T_api_Shape), .bool, ref07_Within k⟩), (56, ⟨(.slice T_api_Atom), (.slice T_api_Atom), slices_Clone_api_Atom_api_Atom k⟩)], codes := codes, k := k, inpl := [(92, ⟨T_api_Atom, 93, sortF⟩)], ins := [(88, T_api_Field, 48)], calm := [58] }) tabOk (.cons (law07_small_spec k) f14_at f14_ok <| .cons (law07_fixed_spec k) f15_at f15_ok <| .cons (object_Get_spec k) f16_at f16_ok <| .cons (ref07_Get_spec k) f17_at f17_ok <| .cons (object_May_spec k) f18_at f18_ok <| .cons (ref07_May_spec k) f19_at f19_ok <| .cons (ref06_Same_spec k) f20_at f20_ok <| .cons (ref07_Same_spec k) f21_at f21_ok <| .cons (object_Join_spec k) f22_at f22_ok <| .cons (ref07_Join_spec k) f23_at f23_ok <| .cons (object_Within_spec k) f24_at f24_ok <| .cons (ref07_Within_spec k) f25_at f25_ok <| .cons (slices_Clone_api_Atom_api_Atom_spec k) f56_at f56_ok <| .nil) codesOk mixedOk (fun _ _ _ _ => trivial) (hi := inplOk) (hj := insOk)) f3_at (fun x => (law07_ObjectTells_eq k x).symm)
noncomputable def law07_ObjectJoin : (k : Nat) → (Ty.D (.pair T_api_Shape (.pair T_api_Shape T_api_Shape))) → Option (Ty.D .bool) := fun (k : Nat) (x : (T_api_Shape.pair (T_api_Shape.pair T_api_Shape)).D) => P.bind (law07_fixed k PUnit.unit) fun (r : Bool) => P.cond (P.not r) (P.bind (law07_fixed k PUnit.unit) fun (r : Bool) => some r) (P.bind (law07_small k x.fst) fun (r : Bool) => P.cond (P.not r) (P.bind (law07_fixed k PUnit.unit) fun (r : Bool) => some r) (P.bind (law07_small k x.snd.fst) fun (r : Bool) => P.cond (P.not r) (P.bind (law07_fixed k PUnit.unit) fun (r : Bool) => some r) (P.bind (law07_small k x.snd.snd) fun (r : Bool) => P.cond (P.not r) (P.bind (law07_fixed k PUnit.unit) fun (r : Bool) => some r) (P.bind (object_May k x.fst) fun (r : Bool) => P.cond (P.not r) (P.bind (law07_fixed k PUnit.unit) fun (r : Bool) => some r) (P.bind (object_May k x.snd.fst) fun (r : Bool) => P.cond (P.not r) (P.bind (law07_fixed k PUnit.unit) fun (r : Bool) => some r) (P.bind (object_May k x.snd.snd) fun (r : Bool) => P.cond (P.not r) (P.bind (law07_fixed k PUnit.unit) fun (r : Bool) => some r) (P.bind (object_Join k (x.fst, x.snd.fst)) fun (r : List (ByteArray × Bool × List (Int × Int)) × List (Int × Int)) => P.bind (object_May k r) fun (r_1 : Bool) => P.cond (P.not r_1) (some false) (P.bind (object_Within k (x.fst, r)) fun (r_2 : Bool) => P.cond (P.not r_2) (some false) (P.bind (object_Within k (x.snd.fst, r)) fun (r_3 : Bool) => P.cond (P.not r_3) (some false) (P.bind (object_Within k (x.fst, x.fst)) fun (r_4 : Bool) => P.cond (P.not r_4) (some false) (P.bind (object_Join k (x.snd.fst, x.fst)) fun (r_5 : List (ByteArray × Bool × List (Int × Int)) × List (Int × Int)) => P.bind (ref07_Same k (r, r_5)) fun (r_6 : Bool) => P.cond (P.not r_6) (some false) (P.bind (object_Join k (r, x.fst)) fun (r_7 : List (ByteArray × Bool × List (Int × Int)) × List (Int × Int)) => P.bind (ref07_Same k (r_7, r)) fun (r_8 : Bool) => P.cond (P.not r_8) (some false) (P.bind (object_Within k (x.fst, x.snd.snd)) fun (r_9 : Bool) => P.cond r_9 (P.bind (object_Within k (x.snd.fst, x.snd.snd)) fun (r_10 : Bool) => P.cond r_10 (P.bind (object_Within k (r, x.snd.snd)) fun (r_11 : Bool) => P.cond (P.not r_11) (some false) (P.bind (object_Join k (r, x.snd.snd)) fun (r : List (ByteArray × Bool × List (Int × Int)) × List (Int × Int)) => P.bind (object_Join k (x.snd.fst, x.snd.snd)) fun (r_12 : List (ByteArray × Bool × List (Int × Int)) × List (Int × Int)) => P.bind (object_Join k (x.fst, r_12)) fun (r_13 : List (ByteArray × Bool × List (Int × Int)) × List (Int × Int)) => P.bind (ref07_Same k (r, r_13)) fun (r : Bool) => P.cond r (P.bind (object_Within k (x.fst, x.snd.fst)) fun (r : Bool) => P.cond r (P.bind (object_Within k (x.snd.fst, x.fst)) fun (r : Bool) => P.bind (ref07_Same k (x.fst, x.snd.fst)) fun (r_14 : Bool) => some (P.beq r r_14)) (P.bind (ref07_Same k (x.fst, x.snd.fst)) fun (r : Bool) => some (P.beq false r))) (some false))) (P.bind (object_Join k (r, x.snd.snd)) fun (r : List (ByteArray × Bool × List (Int × Int)) × List (Int × Int)) => P.bind (object_Join k (x.snd.fst, x.snd.snd)) fun (r_11 : List (ByteArray × Bool × List (Int × Int)) × List (Int × Int)) => P.bind (object_Join k (x.fst, r_11)) fun (r_12 : List (ByteArray × Bool × List (Int × Int)) × List (Int × Int)) => P.bind (ref07_Same k (r, r_12)) fun (r : Bool) => P.cond r (P.bind (object_Within k (x.fst, x.snd.fst)) fun (r : Bool) => P.cond r (P.bind (object_Within k (x.snd.fst, x.fst)) fun (r : Bool) => P.bind (ref07_Same k (x.fst, x.snd.fst)) fun (r_13 : Bool) => some (P.beq r r_13)) (P.bind (ref07_Same k (x.fst, x.snd.fst)) fun (r : Bool) => some (P.beq false r))) (some false))) (P.bind (object_Join k (r, x.snd.snd)) fun (r : List (ByteArray × Bool × List (Int × Int)) × List (Int × Int)) => P.bind (object_Join k (x.snd.fst, x.snd.snd)) fun (r_10 : List (ByteArray × Bool × List (Int × Int)) × List (Int × Int)) => P.bind (object_Join k (x.fst, r_10)) fun (r_11 : List (ByteArray × Bool × List (Int × Int)) × List (Int × Int)) => P.bind (ref07_Same k (r, r_11)) fun (r : Bool) => P.cond r (P.bind (object_Within k (x.fst, x.snd.fst)) fun (r : Bool) => P.cond r (P.bind (object_Within k (x.snd.fst, x.fst)) fun (r : Bool) => P.bind (ref07_Same k (x.fst, x.snd.fst)) fun (r_12 : Bool) => some (P.beq r r_12)) (P.bind (ref07_Same k (x.fst, x.snd.fst)) fun (r : Bool) => some (P.beq false r))) (some false)))))))))))))))
theorem law07_ObjectJoin_eq (k : Nat) (x : (Ty.D (.pair T_api_Shape (.pair T_api_Shape T_api_Shape)))) : evFn { T := T, specs := [(14, ⟨T_api_Shape, .bool, law07_small k⟩), (15, ⟨.unit, .bool, law07_fixed k⟩), (18, ⟨T_api_Shape, .bool, object_May k⟩), (21, ⟨(.pair T_api_Shape T_api_Shape), .bool, ref07_Same k⟩), (22, ⟨(.pair T_api_Shape T_api_Shape), T_api_Shape, object_Join k⟩), (24, ⟨(.pair T_api_Shape T_api_Shape), .bool, object_Within k⟩)], codes := codes, k := k, inpl := [(92, ⟨T_api_Atom, 93, sortF⟩)], ins := [(88, T_api_Field, 48)], calm := [58] } 6 Try.f4 [] (.pair T_api_Shape (.pair T_api_Shape T_api_Shape)) .bool x = law07_ObjectJoin k x := by kernel_rfl
theorem law07_ObjectJoin_spec (k : Nat) : SpecOk Try.prog GG 4 ⟨(.pair T_api_Shape (.pair T_api_Shape T_api_Shape)), .bool, law07_ObjectJoin k⟩ :=
  fn_spec (envOk (E := { T := T, specs := [(14, ⟨T_api_Shape, .bool, law07_small k⟩), (15, ⟨.unit, .bool, law07_fixed k⟩), (18, ⟨T_api_Shape, .bool, object_May k⟩), (21, ⟨(.pair T_api_Shape T_api_Shape), .bool, ref07_Same k⟩), (22, ⟨(.pair T_api_Shape T_api_Shape), T_api_Shape, object_Join k⟩), (24, ⟨(.pair T_api_Shape T_api_Shape), .bool, object_Within k⟩)], codes := codes, k := k, inpl := [(92, ⟨T_api_Atom, 93, sortF⟩)], ins := [(88, T_api_Field, 48)], calm := [58] }) tabOk (.cons (law07_small_spec k) f14_at f14_ok <| .cons (law07_fixed_spec k) f15_at f15_ok <| .cons (object_May_spec k) f18_at f18_ok <| .cons (ref07_Same_spec k) f21_at f21_ok <| .cons (object_Join_spec k) f22_at f22_ok <| .cons (object_Within_spec k) f24_at f24_ok <| .nil) codesOk mixedOk (fun _ _ _ _ => trivial) (hi := inplOk) (hj := insOk)) f4_at (fun x => (law07_ObjectJoin_eq k x).symm)
noncomputable def law07_mustBe : (k : Nat) → (Ty.D (.pair T_api_Shape .str)) → Option (Ty.D .bool) := fun (k : Nat) (x : (T_api_Shape.pair Ty.str).D) => P.bind (object_Get k (x.fst, x.snd)) fun (r : (ByteArray × Bool × List (Int × Int)) × Bool) => P.cond r.snd (some r.fst.snd.fst) (some false)
theorem law07_mustBe_eq (k : Nat) (x : (Ty.D (.pair T_api_Shape .str))) : evFn { T := T, specs := [(16, ⟨(.pair T_api_Shape .str), (.pair T_api_Field .bool), object_Get k⟩), (56, ⟨(.slice T_api_Atom), (.slice T_api_Atom), slices_Clone_api_Atom_api_Atom k⟩)], codes := codes, k := k, inpl := [(92, ⟨T_api_Atom, 93, sortF⟩)], ins := [(88, T_api_Field, 48)], calm := [58] } 6 Try.f29 [] (.pair T_api_Shape .str) .bool x = law07_mustBe k x := by kernel_rfl
theorem law07_mustBe_spec (k : Nat) : SpecOk Try.prog GG 29 ⟨(.pair T_api_Shape .str), .bool, law07_mustBe k⟩ :=
  fn_spec (envOk (E := { T := T, specs := [(16, ⟨(.pair T_api_Shape .str), (.pair T_api_Field .bool), object_Get k⟩), (56, ⟨(.slice T_api_Atom), (.slice T_api_Atom), slices_Clone_api_Atom_api_Atom k⟩)], codes := codes, k := k, inpl := [(92, ⟨T_api_Atom, 93, sortF⟩)], ins := [(88, T_api_Field, 48)], calm := [58] }) tabOk (.cons (object_Get_spec k) f16_at f16_ok <| .cons (slices_Clone_api_Atom_api_Atom_spec k) f56_at f56_ok <| .nil) codesOk mixedOk (fun _ _ _ _ => trivial) (hi := inplOk) (hj := insOk)) f29_at (fun x => (law07_mustBe_eq k x).symm)
noncomputable def law07_ObjectWeaker : (k : Nat) → (Ty.D (.pair T_api_Shape (.pair .str (.slice T_api_Atom)))) → Option (Ty.D .bool) := fun (k : Nat) (x : (T_api_Shape.pair (Ty.str.pair T_api_Atom.slice)).D) => P.bind (law07_fixed k PUnit.unit) fun (r : Bool) => P.cond (P.not r) (P.bind (law07_fixed k PUnit.unit) fun (r : Bool) => some r) (P.bind (law07_small k x.fst) fun (r : Bool) => P.cond (P.not r) (P.bind (law07_fixed k PUnit.unit) fun (r : Bool) => some r) (P.cond (P.ilt ((60 : Int)) (P.len x.snd.snd)) (P.bind (law07_fixed k PUnit.unit) fun (r : Bool) => some r) (P.bind (object_May k x.fst) fun (r : Bool) => P.cond (P.not r) (P.bind (law07_fixed k PUnit.unit) fun (r : Bool) => some r) (P.bind (ref06_May k x.snd.snd) fun (r : Bool) => P.cond (P.not r) (P.bind (law07_fixed k PUnit.unit) fun (r : Bool) => some r) (P.bind (object_Weak k (x.fst, x.snd.fst, x.snd.snd)) fun (r : List (ByteArray × Bool × List (Int × Int)) × List (Int × Int)) => P.bind (object_Strong k (x.fst, x.snd.fst, x.snd.snd)) fun (r_1 : List (ByteArray × Bool × List (Int × Int)) × List (Int × Int)) => P.bind (object_Get k (x.fst, x.snd.fst)) fun (r_2 : (ByteArray × Bool × List (Int × Int)) × Bool) => P.bind (object_May k r) fun (r_3 : Bool) => P.cond (P.not r_3) (some false) (P.bind (object_May k r_1) fun (r_4 : Bool) => P.cond (P.not r_4) (some false) (P.cond r_2.snd (P.bind (object_Within k (r_1, r)) fun (r_5 : Bool) => P.cond (P.not r_5) (some false) (P.bind (object_Within k (x.fst, r)) fun (r_6 : Bool) => P.cond (P.not r_6) (some false) (P.cond r_2.snd (P.bind (law07_mustBe k (r, x.snd.fst)) fun (r_7 : Bool) => P.cond (P.not (P.beq r_2.fst.snd.fst r_7)) (some false) (P.bind (P.iter k (fun (y : Int) => P.cond (P.ilt y (P.len x.fst.fst)) (P.cond (P.inb y (P.len x.fst.fst)) (P.bind (object_Get k (r, (P.get x.fst.fst y ((ByteArray.mk #[]), false, [])).fst)) fun (r : (ByteArray × Bool × List (Int × Int)) × Bool) => P.cond (P.inb y (P.len x.fst.fst)) (P.bind (object_Get k (r_1, (P.get x.fst.fst y ((ByteArray.mk #[]), false, [])).fst)) fun (r_8 : (ByteArray × Bool × List (Int × Int)) × Bool) => P.cond (P.inb y (P.len x.fst.fst)) (P.cond (P.not (P.seq (P.get x.fst.fst y ((ByteArray.mk #[]), false, [])).fst x.snd.fst)) (P.cond (P.not r.snd) (some (Sum.inr (Sum.inr false))) (P.cond (P.not r_8.snd) (some (Sum.inr (Sum.inr false))) (P.cond (P.inb y (P.len x.fst.fst)) (P.bind (ref06_Same k (r.fst.snd.snd, (P.get x.fst.fst y ((ByteArray.mk #[]), false, [])).snd.snd)) fun (r_9 : Bool) => P.cond (P.not r_9) (some (Sum.inr (Sum.inr false))) (P.cond (P.inb y (P.len x.fst.fst)) (P.bind (ref06_Same k (r_8.fst.snd.snd, (P.get x.fst.fst y ((ByteArray.mk #[]), false, [])).snd.snd)) fun (r_10 : Bool) => P.cond (P.not r_10) (some (Sum.inr (Sum.inr false))) (P.cond (P.inb y (P.len x.fst.fst)) (P.cond (P.not (P.beq r.fst.snd.fst (P.get x.fst.fst y ((ByteArray.mk #[]), false, [])).snd.fst)) (some (Sum.inr (Sum.inr false))) (P.cond (P.not (P.beq r_8.fst.snd.fst r.fst.snd.fst)) (some (Sum.inr (Sum.inr false))) (some (Sum.inl (P.wrap IntKind.i64 (P.add y ((1 : Int)))))))) none)) none)) none))) (some (Sum.inl (P.wrap IntKind.i64 (P.add y ((1 : Int))))))) none) none) none) (some (Sum.inr (Sum.inl PUnit.unit)))) ((0 : Int))) (P.either (fun (z : PUnit) => P.bind (ref06_Null k PUnit.unit) fun (r : List (Int × Int)) => P.bind (object_Strong k (x.fst, x.snd.fst, r)) fun (r : List (ByteArray × Bool × List (Int × Int)) × List (Int × Int)) => P.bind (object_Strong k (r, x.snd.fst, x.snd.snd)) fun (r : List (ByteArray × Bool × List (Int × Int)) × List (Int × Int)) => P.bind (ref07_Same k (r, r_1)) fun (r : Bool) => some r) fun (r : Bool) => some r))) (P.bind (P.iter k (fun (y : Int) => P.cond (P.ilt y (P.len x.fst.fst)) (P.cond (P.inb y (P.len x.fst.fst)) (P.bind (object_Get k (r, (P.get x.fst.fst y ((ByteArray.mk #[]), false, [])).fst)) fun (r : (ByteArray × Bool × List (Int × Int)) × Bool) => P.cond (P.inb y (P.len x.fst.fst)) (P.bind (object_Get k (r_1, (P.get x.fst.fst y ((ByteArray.mk #[]), false, [])).fst)) fun (r_7 : (ByteArray × Bool × List (Int × Int)) × Bool) => P.cond (P.inb y (P.len x.fst.fst)) (P.cond (P.not (P.seq (P.get x.fst.fst y ((ByteArray.mk #[]), false, [])).fst x.snd.fst)) (P.cond (P.not r.snd) (some (Sum.inr (Sum.inr false))) (P.cond (P.not r_7.snd) (some (Sum.inr (Sum.inr false))) (P.cond (P.inb y (P.len x.fst.fst)) (P.bind (ref06_Same k (r.fst.snd.snd, (P.get x.fst.fst y ((ByteArray.mk #[]), false, [])).snd.snd)) fun (r_8 : Bool) => P.cond (P.not r_8) (some (Sum.inr (Sum.inr false))) (P.cond (P.inb y (P.len x.fst.fst)) (P.bind (ref06_Same k (r_7.fst.snd.snd, (P.get x.fst.fst y ((ByteArray.mk #[]), false, [])).snd.snd)) fun (r_9 : Bool) => P.cond (P.not r_9) (some (Sum.inr (Sum.inr false))) (P.cond (P.inb y (P.len x.fst.fst)) (P.cond (P.not (P.beq r.fst.snd.fst (P.get x.fst.fst y ((ByteArray.mk #[]), false, [])).snd.fst)) (some (Sum.inr (Sum.inr false))) (P.cond (P.not (P.beq r_7.fst.snd.fst r.fst.snd.fst)) (some (Sum.inr (Sum.inr false))) (some (Sum.inl (P.wrap IntKind.i64 (P.add y ((1 : Int)))))))) none)) none)) none))) (some (Sum.inl (P.wrap IntKind.i64 (P.add y ((1 : Int))))))) none) none) none) (some (Sum.inr (Sum.inl PUnit.unit)))) ((0 : Int))) (P.either (fun (z : PUnit) => P.bind (ref06_Null k PUnit.unit) fun (r : List (Int × Int)) => P.bind (object_Strong k (x.fst, x.snd.fst, r)) fun (r : List (ByteArray × Bool × List (Int × Int)) × List (Int × Int)) => P.bind (object_Strong k (r, x.snd.fst, x.snd.snd)) fun (r : List (ByteArray × Bool × List (Int × Int)) × List (Int × Int)) => P.bind (ref07_Same k (r, r_1)) fun (r : Bool) => some r) fun (r : Bool) => some r))))) (P.bind (object_Within k (x.fst, r)) fun (r_5 : Bool) => P.cond (P.not r_5) (some false) (P.cond r_2.snd (P.bind (law07_mustBe k (r, x.snd.fst)) fun (r_6 : Bool) => P.cond (P.not (P.beq r_2.fst.snd.fst r_6)) (some false) (P.bind (P.iter k (fun (y : Int) => P.cond (P.ilt y (P.len x.fst.fst)) (P.cond (P.inb y (P.len x.fst.fst)) (P.bind (object_Get k (r, (P.get x.fst.fst y ((ByteArray.mk #[]), false, [])).fst)) fun (r : (ByteArray × Bool × List (Int × Int)) × Bool) => P.cond (P.inb y (P.len x.fst.fst)) (P.bind (object_Get k (r_1, (P.get x.fst.fst y ((ByteArray.mk #[]), false, [])).fst)) fun (r_7 : (ByteArray × Bool × List (Int × Int)) × Bool) => P.cond (P.inb y (P.len x.fst.fst)) (P.cond (P.not (P.seq (P.get x.fst.fst y ((ByteArray.mk #[]), false, [])).fst x.snd.fst)) (P.cond (P.not r.snd) (some (Sum.inr (Sum.inr false))) (P.cond (P.not r_7.snd) (some (Sum.inr (Sum.inr false))) (P.cond (P.inb y (P.len x.fst.fst)) (P.bind (ref06_Same k (r.fst.snd.snd, (P.get x.fst.fst y ((ByteArray.mk #[]), false, [])).snd.snd)) fun (r_8 : Bool) => P.cond (P.not r_8) (some (Sum.inr (Sum.inr false))) (P.cond (P.inb y (P.len x.fst.fst)) (P.bind (ref06_Same k (r_7.fst.snd.snd, (P.get x.fst.fst y ((ByteArray.mk #[]), false, [])).snd.snd)) fun (r_9 : Bool) => P.cond (P.not r_9) (some (Sum.inr (Sum.inr false))) (P.cond (P.inb y (P.len x.fst.fst)) (P.cond (P.not (P.beq r.fst.snd.fst (P.get x.fst.fst y ((ByteArray.mk #[]), false, [])).snd.fst)) (some (Sum.inr (Sum.inr false))) (P.cond (P.not (P.beq r_7.fst.snd.fst r.fst.snd.fst)) (some (Sum.inr (Sum.inr false))) (some (Sum.inl (P.wrap IntKind.i64 (P.add y ((1 : Int)))))))) none)) none)) none))) (some (Sum.inl (P.wrap IntKind.i64 (P.add y ((1 : Int))))))) none) none) none) (some (Sum.inr (Sum.inl PUnit.unit)))) ((0 : Int))) (P.either (fun (z : PUnit) => P.bind (ref06_Null k PUnit.unit) fun (r : List (Int × Int)) => P.bind (object_Strong k (x.fst, x.snd.fst, r)) fun (r : List (ByteArray × Bool × List (Int × Int)) × List (Int × Int)) => P.bind (object_Strong k (r, x.snd.fst, x.snd.snd)) fun (r : List (ByteArray × Bool × List (Int × Int)) × List (Int × Int)) => P.bind (ref07_Same k (r, r_1)) fun (r : Bool) => some r) fun (r : Bool) => some r))) (P.bind (P.iter k (fun (y : Int) => P.cond (P.ilt y (P.len x.fst.fst)) (P.cond (P.inb y (P.len x.fst.fst)) (P.bind (object_Get k (r, (P.get x.fst.fst y ((ByteArray.mk #[]), false, [])).fst)) fun (r : (ByteArray × Bool × List (Int × Int)) × Bool) => P.cond (P.inb y (P.len x.fst.fst)) (P.bind (object_Get k (r_1, (P.get x.fst.fst y ((ByteArray.mk #[]), false, [])).fst)) fun (r_6 : (ByteArray × Bool × List (Int × Int)) × Bool) => P.cond (P.inb y (P.len x.fst.fst)) (P.cond (P.not (P.seq (P.get x.fst.fst y ((ByteArray.mk #[]), false, [])).fst x.snd.fst)) (P.cond (P.not r.snd) (some (Sum.inr (Sum.inr false))) (P.cond (P.not r_6.snd) (some (Sum.inr (Sum.inr false))) (P.cond (P.inb y (P.len x.fst.fst)) (P.bind (ref06_Same k (r.fst.snd.snd, (P.get x.fst.fst y ((ByteArray.mk #[]), false, [])).snd.snd)) fun (r_7 : Bool) => P.cond (P.not r_7) (some (Sum.inr (Sum.inr false))) (P.cond (P.inb y (P.len x.fst.fst)) (P.bind (ref06_Same k (r_6.fst.snd.snd, (P.get x.fst.fst y ((ByteArray.mk #[]), false, [])).snd.snd)) fun (r_8 : Bool) => P.cond (P.not r_8) (some (Sum.inr (Sum.inr false))) (P.cond (P.inb y (P.len x.fst.fst)) (P.cond (P.not (P.beq r.fst.snd.fst (P.get x.fst.fst y ((ByteArray.mk #[]), false, [])).snd.fst)) (some (Sum.inr (Sum.inr false))) (P.cond (P.not (P.beq r_6.fst.snd.fst r.fst.snd.fst)) (some (Sum.inr (Sum.inr false))) (some (Sum.inl (P.wrap IntKind.i64 (P.add y ((1 : Int)))))))) none)) none)) none))) (some (Sum.inl (P.wrap IntKind.i64 (P.add y ((1 : Int))))))) none) none) none) (some (Sum.inr (Sum.inl PUnit.unit)))) ((0 : Int))) (P.either (fun (z : PUnit) => P.bind (ref06_Null k PUnit.unit) fun (r : List (Int × Int)) => P.bind (object_Strong k (x.fst, x.snd.fst, r)) fun (r : List (ByteArray × Bool × List (Int × Int)) × List (Int × Int)) => P.bind (object_Strong k (r, x.snd.fst, x.snd.snd)) fun (r : List (ByteArray × Bool × List (Int × Int)) × List (Int × Int)) => P.bind (ref07_Same k (r, r_1)) fun (r : Bool) => some r) fun (r : Bool) => some r)))))))))))
theorem law07_ObjectWeaker_eq (k : Nat) (x : (Ty.D (.pair T_api_Shape (.pair .str (.slice T_api_Atom))))) : evFn { T := T, specs := [(14, ⟨T_api_Shape, .bool, law07_small k⟩), (15, ⟨.unit, .bool, law07_fixed k⟩), (16, ⟨(.pair T_api_Shape .str), (.pair T_api_Field .bool), object_Get k⟩), (18, ⟨T_api_Shape, .bool, object_May k⟩), (20, ⟨(.pair (.slice T_api_Atom) (.slice T_api_Atom)), .bool, ref06_Same k⟩), (21, ⟨(.pair T_api_Shape T_api_Shape), .bool, ref07_Same k⟩), (24, ⟨(.pair T_api_Shape T_api_Shape), .bool, object_Within k⟩), (26, ⟨(.slice T_api_Atom), .bool, ref06_May k⟩), (27, ⟨(.pair T_api_Shape (.pair .str (.slice T_api_Atom))), T_api_Shape, object_Weak k⟩), (28, ⟨(.pair T_api_Shape (.pair .str (.slice T_api_Atom))), T_api_Shape, object_Strong k⟩), (29, ⟨(.pair T_api_Shape .str), .bool, law07_mustBe k⟩), (30, ⟨.unit, (.slice T_api_Atom), ref06_Null k⟩), (56, ⟨(.slice T_api_Atom), (.slice T_api_Atom), slices_Clone_api_Atom_api_Atom k⟩)], codes := codes, k := k, inpl := [(92, ⟨T_api_Atom, 93, sortF⟩)], ins := [(88, T_api_Field, 48)], calm := [58] } 6 Try.f5 [(8, ⟨[.var 11 (.d (.int .i64))], [], (some (0, []))⟩)] (.pair T_api_Shape (.pair .str (.slice T_api_Atom))) .bool x = law07_ObjectWeaker k x := by kernel_rfl
theorem law07_ObjectWeaker_spec (k : Nat) : SpecOk Try.prog GG 5 ⟨(.pair T_api_Shape (.pair .str (.slice T_api_Atom))), .bool, law07_ObjectWeaker k⟩ :=
  fn_spec (envOk (E := { T := T, specs := [(14, ⟨T_api_Shape, .bool, law07_small k⟩), (15, ⟨.unit, .bool, law07_fixed k⟩), (16, ⟨(.pair T_api_Shape .str), (.pair T_api_Field .bool), object_Get k⟩), (18, ⟨T_api_Shape, .bool, object_May k⟩), (20, ⟨(.pair (.slice T_api_Atom) (.slice T_api_Atom)), .bool, ref06_Same k⟩), (21, ⟨(.pair T_api_Shape T_api_Shape), .bool, ref07_Same k⟩), (24, ⟨(.pair T_api_Shape T_api_Shape), .bool, object_Within k⟩), (26, ⟨(.slice T_api_Atom), .bool, ref06_May k⟩), (27, ⟨(.pair T_api_Shape (.pair .str (.slice T_api_Atom))), T_api_Shape, object_Weak k⟩), (28, ⟨(.pair T_api_Shape (.pair .str (.slice T_api_Atom))), T_api_Shape, object_Strong k⟩), (29, ⟨(.pair T_api_Shape .str), .bool, law07_mustBe k⟩), (30, ⟨.unit, (.slice T_api_Atom), ref06_Null k⟩), (56, ⟨(.slice T_api_Atom), (.slice T_api_Atom), slices_Clone_api_Atom_api_Atom k⟩)], codes := codes, k := k, inpl := [(92, ⟨T_api_Atom, 93, sortF⟩)], ins := [(88, T_api_Field, 48)], calm := [58] }) tabOk (.cons (law07_small_spec k) f14_at f14_ok <| .cons (law07_fixed_spec k) f15_at f15_ok <| .cons (object_Get_spec k) f16_at f16_ok <| .cons (object_May_spec k) f18_at f18_ok <| .cons (ref06_Same_spec k) f20_at f20_ok <| .cons (ref07_Same_spec k) f21_at f21_ok <| .cons (object_Within_spec k) f24_at f24_ok <| .cons (ref06_May_spec k) f26_at f26_ok <| .cons (object_Weak_spec k) f27_at f27_ok <| .cons (object_Strong_spec k) f28_at f28_ok <| .cons (law07_mustBe_spec k) f29_at f29_ok <| .cons (ref06_Null_spec k) f30_at f30_ok <| .cons (slices_Clone_api_Atom_api_Atom_spec k) f56_at f56_ok <| .nil) codesOk mixedOk (fun _ _ _ _ => trivial) (hi := inplOk) (hj := insOk)) f5_at (fun x => (law07_ObjectWeaker_eq k x).symm)
noncomputable def law07_ObjectJoined : (k : Nat) → (Ty.D (.pair T_api_Shape (.pair T_api_Shape .str))) → Option (Ty.D .bool) := fun (k : Nat) (x : (T_api_Shape.pair (T_api_Shape.pair Ty.str)).D) => P.bind (law07_fixed k PUnit.unit) fun (r : Bool) => P.cond (P.not r) (P.bind (law07_fixed k PUnit.unit) fun (r : Bool) => some r) (P.bind (law07_small k x.fst) fun (r : Bool) => P.cond (P.not r) (P.bind (law07_fixed k PUnit.unit) fun (r : Bool) => some r) (P.bind (law07_small k x.snd.fst) fun (r : Bool) => P.cond (P.not r) (P.bind (law07_fixed k PUnit.unit) fun (r : Bool) => some r) (P.bind (object_May k x.fst) fun (r : Bool) => P.cond (P.not r) (P.bind (law07_fixed k PUnit.unit) fun (r : Bool) => some r) (P.bind (object_May k x.snd.fst) fun (r : Bool) => P.cond (P.not r) (P.bind (law07_fixed k PUnit.unit) fun (r : Bool) => some r) (P.bind (object_Get k (x.fst, x.snd.snd)) fun (r : (ByteArray × Bool × List (Int × Int)) × Bool) => P.bind (object_Get k (x.snd.fst, x.snd.snd)) fun (r_1 : (ByteArray × Bool × List (Int × Int)) × Bool) => P.bind (object_Join k (x.fst, x.snd.fst)) fun (r_2 : List (ByteArray × Bool × List (Int × Int)) × List (Int × Int)) => P.bind (object_Get k (r_2, x.snd.snd)) fun (r_3 : (ByteArray × Bool × List (Int × Int)) × Bool) => P.cond r.snd (P.cond (P.beq r_3.snd true) (P.cond r.snd (P.cond r_1.snd (P.cond r.fst.snd.fst (P.cond (P.beq r_3.fst.snd.fst r_1.fst.snd.fst) (P.bind (ref06_Union k (r.fst.snd.snd, r_1.fst.snd.snd)) fun (r : List (Int × Int)) => P.bind (ref06_Same k (r_3.fst.snd.snd, r)) fun (r : Bool) => some r) (some false)) (P.cond (P.beq r_3.fst.snd.fst false) (P.bind (ref06_Union k (r.fst.snd.snd, r_1.fst.snd.snd)) fun (r : List (Int × Int)) => P.bind (ref06_Same k (r_3.fst.snd.snd, r)) fun (r : Bool) => some r) (some false))) (P.cond (P.beq r_3.fst.snd.fst false) (P.bind (ref06_Union k (r.fst.snd.snd, r_1.fst.snd.snd)) fun (r : List (Int × Int)) => P.bind (ref06_Same k (r_3.fst.snd.snd, r)) fun (r : Bool) => some r) (some false))) (P.cond (P.beq r_3.fst.snd.fst false) (P.bind (ref06_Union k (r.fst.snd.snd, r_1.fst.snd.snd)) fun (r : List (Int × Int)) => P.bind (ref06_Same k (r_3.fst.snd.snd, r)) fun (r : Bool) => some r) (some false))) (some false)) (P.cond (P.beq r_3.snd r_1.snd) (P.cond r.snd (P.cond r_1.snd (P.cond r.fst.snd.fst (P.cond (P.beq r_3.fst.snd.fst r_1.fst.snd.fst) (P.bind (ref06_Union k (r.fst.snd.snd, r_1.fst.snd.snd)) fun (r : List (Int × Int)) => P.bind (ref06_Same k (r_3.fst.snd.snd, r)) fun (r : Bool) => some r) (some false)) (P.cond (P.beq r_3.fst.snd.fst false) (P.bind (ref06_Union k (r.fst.snd.snd, r_1.fst.snd.snd)) fun (r : List (Int × Int)) => P.bind (ref06_Same k (r_3.fst.snd.snd, r)) fun (r : Bool) => some r) (some false))) (P.cond (P.beq r_3.fst.snd.fst false) (P.bind (ref06_Union k (r.fst.snd.snd, r_1.fst.snd.snd)) fun (r : List (Int × Int)) => P.bind (ref06_Same k (r_3.fst.snd.snd, r)) fun (r : Bool) => some r) (some false))) (P.cond (P.beq r_3.fst.snd.fst false) (P.bind (ref06_Union k (r.fst.snd.snd, r_1.fst.snd.snd)) fun (r : List (Int × Int)) => P.bind (ref06_Same k (r_3.fst.snd.snd, r)) fun (r : Bool) => some r) (some false))) (some false)))))))
theorem law07_ObjectJoined_eq (k : Nat) (x : (Ty.D (.pair T_api_Shape (.pair T_api_Shape .str)))) : evFn { T := T, specs := [(14, ⟨T_api_Shape, .bool, law07_small k⟩), (15, ⟨.unit, .bool, law07_fixed k⟩), (16, ⟨(.pair T_api_Shape .str), (.pair T_api_Field .bool), object_Get k⟩), (18, ⟨T_api_Shape, .bool, object_May k⟩), (20, ⟨(.pair (.slice T_api_Atom) (.slice T_api_Atom)), .bool, ref06_Same k⟩), (22, ⟨(.pair T_api_Shape T_api_Shape), T_api_Shape, object_Join k⟩), (31, ⟨(.pair (.slice T_api_Atom) (.slice T_api_Atom)), (.slice T_api_Atom), ref06_Union k⟩), (56, ⟨(.slice T_api_Atom), (.slice T_api_Atom), slices_Clone_api_Atom_api_Atom k⟩)], codes := codes, k := k, inpl := [(92, ⟨T_api_Atom, 93, sortF⟩)], ins := [(88, T_api_Field, 48)], calm := [58] } 6 Try.f6 [] (.pair T_api_Shape (.pair T_api_Shape .str)) .bool x = law07_ObjectJoined k x := by kernel_rfl
theorem law07_ObjectJoined_spec (k : Nat) : SpecOk Try.prog GG 6 ⟨(.pair T_api_Shape (.pair T_api_Shape .str)), .bool, law07_ObjectJoined k⟩ :=
  fn_spec (envOk (E := { T := T, specs := [(14, ⟨T_api_Shape, .bool, law07_small k⟩), (15, ⟨.unit, .bool, law07_fixed k⟩), (16, ⟨(.pair T_api_Shape .str), (.pair T_api_Field .bool), object_Get k⟩), (18, ⟨T_api_Shape, .bool, object_May k⟩), (20, ⟨(.pair (.slice T_api_Atom) (.slice T_api_Atom)), .bool, ref06_Same k⟩), (22, ⟨(.pair T_api_Shape T_api_Shape), T_api_Shape, object_Join k⟩), (31, ⟨(.pair (.slice T_api_Atom) (.slice T_api_Atom)), (.slice T_api_Atom), ref06_Union k⟩), (56, ⟨(.slice T_api_Atom), (.slice T_api_Atom), slices_Clone_api_Atom_api_Atom k⟩)], codes := codes, k := k, inpl := [(92, ⟨T_api_Atom, 93, sortF⟩)], ins := [(88, T_api_Field, 48)], calm := [58] }) tabOk (.cons (law07_small_spec k) f14_at f14_ok <| .cons (law07_fixed_spec k) f15_at f15_ok <| .cons (object_Get_spec k) f16_at f16_ok <| .cons (object_May_spec k) f18_at f18_ok <| .cons (ref06_Same_spec k) f20_at f20_ok <| .cons (object_Join_spec k) f22_at f22_ok <| .cons (ref06_Union_spec k) f31_at f31_ok <| .cons (slices_Clone_api_Atom_api_Atom_spec k) f56_at f56_ok <| .nil) codesOk mixedOk (fun _ _ _ _ => trivial) (hi := inplOk) (hj := insOk)) f6_at (fun x => (law07_ObjectJoined_eq k x).symm)
noncomputable def ref07_Strong : (k : Nat) → (Ty.D (.pair T_api_Shape (.pair .str (.slice T_api_Atom)))) → Option (Ty.D T_api_Shape) := fun (k : Nat) (x : (T_api_Shape.pair (Ty.str.pair T_api_Atom.slice)).D) => P.bind (ref07_May k x.fst) fun (r : Bool) => P.cond (P.not r) (some ([], [])) (P.bind (ref06_Norm k x.snd.snd) fun (r : List (Int × Int)) => P.bind (ref07_With k (x.fst, x.snd.fst, true, r)) fun (r : List (ByteArray × Bool × List (Int × Int)) × List (Int × Int)) => some r)
theorem ref07_Strong_eq (k : Nat) (x : (Ty.D (.pair T_api_Shape (.pair .str (.slice T_api_Atom))))) : evFn { T := T, specs := [(19, ⟨T_api_Shape, .bool, ref07_May k⟩), (62, ⟨(.pair T_api_Shape T_api_Field), T_api_Shape, ref07_With k⟩), (66, ⟨(.slice T_api_Atom), (.slice T_api_Atom), ref06_Norm k⟩)], codes := codes, k := k, inpl := [(92, ⟨T_api_Atom, 93, sortF⟩)], ins := [(88, T_api_Field, 48)], calm := [58] } 6 Try.f32 [] (.pair T_api_Shape (.pair .str (.slice T_api_Atom))) T_api_Shape x = ref07_Strong k x := by kernel_rfl
theorem ref07_Strong_spec (k : Nat) : SpecOk Try.prog GG 32 ⟨(.pair T_api_Shape (.pair .str (.slice T_api_Atom))), T_api_Shape, ref07_Strong k⟩ :=
  fn_spec (envOk (E := { T := T, specs := [(19, ⟨T_api_Shape, .bool, ref07_May k⟩), (62, ⟨(.pair T_api_Shape T_api_Field), T_api_Shape, ref07_With k⟩), (66, ⟨(.slice T_api_Atom), (.slice T_api_Atom), ref06_Norm k⟩)], codes := codes, k := k, inpl := [(92, ⟨T_api_Atom, 93, sortF⟩)], ins := [(88, T_api_Field, 48)], calm := [58] }) tabOk (.cons (ref07_May_spec k) f19_at f19_ok <| .cons (ref07_With_spec k) f62_at f62_ok <| .cons (ref06_Norm_spec k) f66_at f66_ok <| .nil) codesOk mixedOk (fun _ _ _ _ => trivial) (hi := inplOk) (hj := insOk)) f32_at (fun x => (ref07_Strong_eq k x).symm)
noncomputable def ref07_Weak : (k : Nat) → (Ty.D (.pair T_api_Shape (.pair .str (.slice T_api_Atom)))) → Option (Ty.D T_api_Shape) := fun (k : Nat) (x : (T_api_Shape.pair (Ty.str.pair T_api_Atom.slice)).D) => P.bind (ref07_May k x.fst) fun (r : Bool) => P.cond (P.not r) (some ([], [])) (P.bind (ref07_Get k (x.fst, x.snd.fst)) fun (r : (ByteArray × Bool × List (Int × Int)) × Bool) => P.bind (ref06_Union k (r.fst.snd.snd, x.snd.snd)) fun (r_1 : List (Int × Int)) => P.bind (ref07_With k (x.fst, x.snd.fst, r.fst.snd.fst, r_1)) fun (r : List (ByteArray × Bool × List (Int × Int)) × List (Int × Int)) => some r)
theorem ref07_Weak_eq (k : Nat) (x : (Ty.D (.pair T_api_Shape (.pair .str (.slice T_api_Atom))))) : evFn { T := T, specs := [(17, ⟨(.pair T_api_Shape .str), (.pair T_api_Field .bool), ref07_Get k⟩), (19, ⟨T_api_Shape, .bool, ref07_May k⟩), (31, ⟨(.pair (.slice T_api_Atom) (.slice T_api_Atom)), (.slice T_api_Atom), ref06_Union k⟩), (62, ⟨(.pair T_api_Shape T_api_Field), T_api_Shape, ref07_With k⟩)], codes := codes, k := k, inpl := [(92, ⟨T_api_Atom, 93, sortF⟩)], ins := [(88, T_api_Field, 48)], calm := [58] } 6 Try.f33 [] (.pair T_api_Shape (.pair .str (.slice T_api_Atom))) T_api_Shape x = ref07_Weak k x := by kernel_rfl
theorem ref07_Weak_spec (k : Nat) : SpecOk Try.prog GG 33 ⟨(.pair T_api_Shape (.pair .str (.slice T_api_Atom))), T_api_Shape, ref07_Weak k⟩ :=
  fn_spec (envOk (E := { T := T, specs := [(17, ⟨(.pair T_api_Shape .str), (.pair T_api_Field .bool), ref07_Get k⟩), (19, ⟨T_api_Shape, .bool, ref07_May k⟩), (31, ⟨(.pair (.slice T_api_Atom) (.slice T_api_Atom)), (.slice T_api_Atom), ref06_Union k⟩), (62, ⟨(.pair T_api_Shape T_api_Field), T_api_Shape, ref07_With k⟩)], codes := codes, k := k, inpl := [(92, ⟨T_api_Atom, 93, sortF⟩)], ins := [(88, T_api_Field, 48)], calm := [58] }) tabOk (.cons (ref07_Get_spec k) f17_at f17_ok <| .cons (ref07_May_spec k) f19_at f19_ok <| .cons (ref06_Union_spec k) f31_at f31_ok <| .cons (ref07_With_spec k) f62_at f62_ok <| .nil) codesOk mixedOk (fun _ _ _ _ => trivial) (hi := inplOk) (hj := insOk)) f33_at (fun x => (ref07_Weak_eq k x).symm)
noncomputable def atoms_Rename : (k : Nat) → (Ty.D (.pair (.slice T_api_Atom) (.int .i64))) → Option (Ty.D (.slice T_api_Atom)) := fun (k : Nat) (x : (T_api_Atom.slice.pair (Ty.int IntKind.i64)).D) => P.cond (P.ilt ((0 : Int)) (P.len x.fst)) (P.cond (P.not true) (P.bind (P.iter k (fun (y : Int × List (Int × Int)) => P.cond (P.ilt y.fst ((0 : Int))) none (some (Sum.inr (Sum.inl [])))) ((0 : Int), [])) (P.either (fun (z : List (Int × Int)) => P.bind (atoms_Norm k []) fun (r : List (Int × Int)) => some r) fun (r : List (Int × Int)) => some r)) (P.cond (P.room (P.add (P.len (P.nil (Int × Int))) (P.len x.fst)) 16) (P.bind (P.iter k (fun (y : Int × List (Int × Int)) => P.cond (P.ilt y.fst (P.len (P.app [] x.fst))) (P.cond (P.inb y.fst (P.len y.snd)) (P.cond (P.and (P.ieq (P.get y.snd y.fst ((0 : Int), (0 : Int))).fst ((4 : Int))) (P.ieq (P.get y.snd y.fst ((0 : Int), (0 : Int))).snd x.snd)) (P.cond (P.inb y.fst (P.len y.snd)) (some (Sum.inl (P.wrap IntKind.i64 (P.add y.fst ((1 : Int))), P.set y.snd y.fst ((5 : Int), (P.get y.snd y.fst ((0 : Int), (0 : Int))).snd)))) none) (some (Sum.inl (P.wrap IntKind.i64 (P.add y.fst ((1 : Int))), y.snd)))) none) (some (Sum.inr (Sum.inl y.snd)))) ((0 : Int), P.app [] x.fst)) (P.either (fun (z : List (Int × Int)) => P.bind (atoms_Norm k z) fun (r : List (Int × Int)) => some r) fun (r : List (Int × Int)) => some r)) none)) (P.amb (P.bind (P.iter k (fun (y : Int × List (Int × Int)) => P.cond (P.ilt y.fst ((0 : Int))) none (some (Sum.inr (Sum.inl [])))) ((0 : Int), [])) (P.either (fun (z : List (Int × Int)) => P.bind (atoms_Norm k []) fun (r : List (Int × Int)) => some r) fun (r : List (Int × Int)) => some r)) (P.cond (P.room (P.add (P.len (P.nil (Int × Int))) (P.len x.fst)) 16) (P.bind (P.iter k (fun (y : Int × List (Int × Int)) => P.cond (P.ilt y.fst (P.len (P.app [] x.fst))) (P.cond (P.inb y.fst (P.len y.snd)) (P.cond (P.and (P.ieq (P.get y.snd y.fst ((0 : Int), (0 : Int))).fst ((4 : Int))) (P.ieq (P.get y.snd y.fst ((0 : Int), (0 : Int))).snd x.snd)) (P.cond (P.inb y.fst (P.len y.snd)) (some (Sum.inl (P.wrap IntKind.i64 (P.add y.fst ((1 : Int))), P.set y.snd y.fst ((5 : Int), (P.get y.snd y.fst ((0 : Int), (0 : Int))).snd)))) none) (some (Sum.inl (P.wrap IntKind.i64 (P.add y.fst ((1 : Int))), y.snd)))) none) (some (Sum.inr (Sum.inl y.snd)))) ((0 : Int), P.app [] x.fst)) (P.either (fun (z : List (Int × Int)) => P.bind (atoms_Norm k z) fun (r : List (Int × Int)) => some r) fun (r : List (Int × Int)) => some r)) none))
theorem atoms_Rename_eq (k : Nat) (x : (Ty.D (.pair (.slice T_api_Atom) (.int .i64)))) : evFn { T := T, specs := [(67, ⟨(.slice T_api_Atom), (.slice T_api_Atom), atoms_Norm k⟩)], codes := codes, k := k, inpl := [(92, ⟨T_api_Atom, 93, sortF⟩)], ins := [(88, T_api_Field, 48)], calm := [58] } 6 Try.f69 [(3, ⟨[.var 12 (.d (.int .i64)), .cel 5 [] (.st (.pair (.int .i64) (.int .i64)))], [], (some (0, [.cel 5 [] (.st (.pair (.int .i64) (.int .i64)))]))⟩)] (.pair (.slice T_api_Atom) (.int .i64)) (.slice T_api_Atom) x = atoms_Rename k x := by kernel_rfl
theorem atoms_Rename_spec (k : Nat) : SpecOk Try.prog GG 69 ⟨(.pair (.slice T_api_Atom) (.int .i64)), (.slice T_api_Atom), atoms_Rename k⟩ :=
  fn_spec (envOk (E := { T := T, specs := [(67, ⟨(.slice T_api_Atom), (.slice T_api_Atom), atoms_Norm k⟩)], codes := codes, k := k, inpl := [(92, ⟨T_api_Atom, 93, sortF⟩)], ins := [(88, T_api_Field, 48)], calm := [58] }) tabOk (.cons (atoms_Norm_spec k) f67_at f67_ok <| .nil) codesOk mixedOk (fun _ _ _ _ => trivial) (hi := inplOk) (hj := insOk)) f69_at (fun x => (atoms_Rename_eq k x).symm)
noncomputable def object_Rename : (k : Nat) → (Ty.D (.pair T_api_Shape (.int .i64))) → Option (Ty.D T_api_Shape) := fun (k : Nat) (x : (T_api_Shape.pair (Ty.int IntKind.i64)).D) => P.bind (object_May k x.fst) fun (r : Bool) => P.cond (P.not r) (some ([], [])) (P.bind (slices_Clone_api_Atom_api_Atom k x.fst.snd) fun (r : List (Int × Int)) => P.bind (P.iter k (fun (y : Int × List (ByteArray × Bool × List (Int × Int)) × List (Int × Int)) => P.cond (P.ilt y.fst (P.len x.fst.fst)) (P.cond (P.inb y.fst (P.len x.fst.fst)) (P.bind (slices_Clone_api_Atom_api_Atom k (P.get x.fst.fst y.fst ((ByteArray.mk #[]), false, [])).snd.snd) fun (r : List (Int × Int)) => P.cond (P.room (P.add (P.len y.snd.fst) (P.len [((P.get x.fst.fst y.fst ((ByteArray.mk #[]), false, [])).fst, (P.get x.fst.fst y.fst ((ByteArray.mk #[]), false, [])).snd.fst, r)])) 48) (some (Sum.inl (P.wrap IntKind.i64 (P.add y.fst ((1 : Int))), P.app y.snd.fst [((P.get x.fst.fst y.fst ((ByteArray.mk #[]), false, [])).fst, (P.get x.fst.fst y.fst ((ByteArray.mk #[]), false, [])).snd.fst, r)], y.snd.snd))) none) none) (some (Sum.inr (Sum.inl (y.snd.fst, y.snd.snd))))) ((0 : Int), [], r)) (P.either (fun (z : List (ByteArray × Bool × List (Int × Int)) × List (Int × Int)) => P.bind (atoms_Rename k (x.fst.snd, x.snd)) fun (r : List (Int × Int)) => P.bind (P.iter k (fun (y : Int × List (ByteArray × Bool × List (Int × Int)) × List (Int × Int)) => P.cond (P.ilt y.fst (P.len x.fst.fst)) (P.cond (P.inb y.fst (P.len x.fst.fst)) (P.bind (atoms_Rename k ((P.get x.fst.fst y.fst ((ByteArray.mk #[]), false, [])).snd.snd, x.snd)) fun (r : List (Int × Int)) => P.cond (P.inb y.fst (P.len y.snd.fst)) (some (Sum.inl (P.wrap IntKind.i64 (P.add y.fst ((1 : Int))), P.set y.snd.fst y.fst ((P.get y.snd.fst y.fst ((ByteArray.mk #[]), false, [])).fst, (P.get y.snd.fst y.fst ((ByteArray.mk #[]), false, [])).snd.fst, r), y.snd.snd))) none) none) (some (Sum.inr (Sum.inl (y.snd.fst, y.snd.snd))))) ((0 : Int), z.fst, r)) (P.either (fun (z : List (ByteArray × Bool × List (Int × Int)) × List (Int × Int)) => some (z.fst, z.snd)) fun (r : List (ByteArray × Bool × List (Int × Int)) × List (Int × Int)) => some r)) fun (r : List (ByteArray × Bool × List (Int × Int)) × List (Int × Int)) => some r))
theorem object_Rename_eq (k : Nat) (x : (Ty.D (.pair T_api_Shape (.int .i64)))) : evFn { T := T, specs := [(18, ⟨T_api_Shape, .bool, object_May k⟩), (56, ⟨(.slice T_api_Atom), (.slice T_api_Atom), slices_Clone_api_Atom_api_Atom k⟩), (69, ⟨(.pair (.slice T_api_Atom) (.int .i64)), (.slice T_api_Atom), atoms_Rename k⟩)], codes := codes, k := k, inpl := [(92, ⟨T_api_Atom, 93, sortF⟩)], ins := [(88, T_api_Field, 48)], calm := [58] } 6 Try.f34 [(6, ⟨[.var 22 (.d (.int .i64)), .box 5 [] (.s (.p (.o (.st (.pair .str (.pair .bool (.slice (.st (.pair (.int .i64) (.int .i64)))))))) (.d (.slice (.st (.pair (.int .i64) (.int .i64)))))))], [], (some (0, [.box 5 [] (.s (.p (.o (.st (.pair .str (.pair .bool (.slice (.st (.pair (.int .i64) (.int .i64)))))))) (.d (.slice (.st (.pair (.int .i64) (.int .i64)))))))]))⟩)] (.pair T_api_Shape (.int .i64)) T_api_Shape x = object_Rename k x := by kernel_rfl
theorem object_Rename_spec (k : Nat) : SpecOk Try.prog GG 34 ⟨(.pair T_api_Shape (.int .i64)), T_api_Shape, object_Rename k⟩ :=
  fn_spec (envOk (E := { T := T, specs := [(18, ⟨T_api_Shape, .bool, object_May k⟩), (56, ⟨(.slice T_api_Atom), (.slice T_api_Atom), slices_Clone_api_Atom_api_Atom k⟩), (69, ⟨(.pair (.slice T_api_Atom) (.int .i64)), (.slice T_api_Atom), atoms_Rename k⟩)], codes := codes, k := k, inpl := [(92, ⟨T_api_Atom, 93, sortF⟩)], ins := [(88, T_api_Field, 48)], calm := [58] }) tabOk (.cons (object_May_spec k) f18_at f18_ok <| .cons (slices_Clone_api_Atom_api_Atom_spec k) f56_at f56_ok <| .cons (atoms_Rename_spec k) f69_at f69_ok <| .nil) codesOk mixedOk (fun _ _ _ _ => trivial) (hi := inplOk) (hj := insOk)) f34_at (fun x => (object_Rename_eq k x).symm)
noncomputable def ref06_Rename : (k : Nat) → (Ty.D (.pair (.slice T_api_Atom) (.int .i64))) → Option (Ty.D (.slice T_api_Atom)) := fun (k : Nat) (x : (T_api_Atom.slice.pair (Ty.int IntKind.i64)).D) => P.bind (P.iter k (fun (y : List (Int × Int) × Int) => P.cond (P.ilt y.snd (P.len x.fst)) (P.cond (P.inb y.snd (P.len x.fst)) (P.cond (P.ieq (P.get x.fst y.snd ((0 : Int), (0 : Int))).fst ((4 : Int))) (P.cond (P.ieq (P.get x.fst y.snd ((0 : Int), (0 : Int))).snd x.snd) (P.cond (P.room (P.add (P.len y.fst) (P.len [((5 : Int), (P.get x.fst y.snd ((0 : Int), (0 : Int))).snd)])) 16) (some (Sum.inl (P.app y.fst [((5 : Int), (P.get x.fst y.snd ((0 : Int), (0 : Int))).snd)], P.wrap IntKind.i64 (P.add y.snd ((1 : Int)))))) none) (P.cond (P.room (P.add (P.len y.fst) (P.len [P.get x.fst y.snd ((0 : Int), (0 : Int))])) 16) (some (Sum.inl (P.app y.fst [P.get x.fst y.snd ((0 : Int), (0 : Int))], P.wrap IntKind.i64 (P.add y.snd ((1 : Int)))))) none)) (P.cond (P.room (P.add (P.len y.fst) (P.len [P.get x.fst y.snd ((0 : Int), (0 : Int))])) 16) (some (Sum.inl (P.app y.fst [P.get x.fst y.snd ((0 : Int), (0 : Int))], P.wrap IntKind.i64 (P.add y.snd ((1 : Int)))))) none)) none) (some (Sum.inr (Sum.inl y.fst)))) ([], (0 : Int))) (P.either (fun (z : List (Int × Int)) => P.bind (ref06_Norm k z) fun (r : List (Int × Int)) => some r) fun (r : List (Int × Int)) => some r)
theorem ref06_Rename_eq (k : Nat) (x : (Ty.D (.pair (.slice T_api_Atom) (.int .i64)))) : evFn { T := T, specs := [(66, ⟨(.slice T_api_Atom), (.slice T_api_Atom), ref06_Norm k⟩)], codes := codes, k := k, inpl := [(92, ⟨T_api_Atom, 93, sortF⟩)], ins := [(88, T_api_Field, 48)], calm := [58] } 6 Try.f70 [(3, ⟨[.var 5 (.o (.st (.pair (.int .i64) (.int .i64)))), .var 6 (.d (.int .i64))], [], (some (0, [.var 5 (.o (.st (.pair (.int .i64) (.int .i64))))]))⟩)] (.pair (.slice T_api_Atom) (.int .i64)) (.slice T_api_Atom) x = ref06_Rename k x := by kernel_rfl
theorem ref06_Rename_spec (k : Nat) : SpecOk Try.prog GG 70 ⟨(.pair (.slice T_api_Atom) (.int .i64)), (.slice T_api_Atom), ref06_Rename k⟩ :=
  fn_spec (envOk (E := { T := T, specs := [(66, ⟨(.slice T_api_Atom), (.slice T_api_Atom), ref06_Norm k⟩)], codes := codes, k := k, inpl := [(92, ⟨T_api_Atom, 93, sortF⟩)], ins := [(88, T_api_Field, 48)], calm := [58] }) tabOk (.cons (ref06_Norm_spec k) f66_at f66_ok <| .nil) codesOk mixedOk (fun _ _ _ _ => trivial) (hi := inplOk) (hj := insOk)) f70_at (fun x => (ref06_Rename_eq k x).symm)
noncomputable def ref07_Rename : (k : Nat) → (Ty.D (.pair T_api_Shape (.int .i64))) → Option (Ty.D T_api_Shape) := fun (k : Nat) (x : (T_api_Shape.pair (Ty.int IntKind.i64)).D) => P.bind (ref07_May k x.fst) fun (r : Bool) => P.cond (P.not r) (some ([], [])) (P.bind (ref06_Rename k (x.fst.snd, x.snd)) fun (r : List (Int × Int)) => P.bind (P.iter k (fun (y : Int × List (ByteArray × Bool × List (Int × Int)) × List (Int × Int)) => P.cond (P.ilt y.fst (P.len x.fst.fst)) (P.cond (P.inb y.fst (P.len x.fst.fst)) (P.bind (ref06_Rename k ((P.get x.fst.fst y.fst ((ByteArray.mk #[]), false, [])).snd.snd, x.snd)) fun (r : List (Int × Int)) => P.cond (P.room (P.add (P.len y.snd.fst) (P.len [((P.get x.fst.fst y.fst ((ByteArray.mk #[]), false, [])).fst, (P.get x.fst.fst y.fst ((ByteArray.mk #[]), false, [])).snd.fst, r)])) 48) (some (Sum.inl (P.wrap IntKind.i64 (P.add y.fst ((1 : Int))), P.app y.snd.fst [((P.get x.fst.fst y.fst ((ByteArray.mk #[]), false, [])).fst, (P.get x.fst.fst y.fst ((ByteArray.mk #[]), false, [])).snd.fst, r)], y.snd.snd))) none) none) (some (Sum.inr (Sum.inl (y.snd.fst, y.snd.snd))))) ((0 : Int), [], r)) (P.either (fun (z : List (ByteArray × Bool × List (Int × Int)) × List (Int × Int)) => some (z.fst, z.snd)) fun (r : List (ByteArray × Bool × List (Int × Int)) × List (Int × Int)) => some r))
theorem ref07_Rename_eq (k : Nat) (x : (Ty.D (.pair T_api_Shape (.int .i64)))) : evFn { T := T, specs := [(19, ⟨T_api_Shape, .bool, ref07_May k⟩), (70, ⟨(.pair (.slice T_api_Atom) (.int .i64)), (.slice T_api_Atom), ref06_Rename k⟩)], codes := codes, k := k, inpl := [(92, ⟨T_api_Atom, 93, sortF⟩)], ins := [(88, T_api_Field, 48)], calm := [58] } 6 Try.f35 [(5, ⟨[.var 6 (.d (.int .i64)), .box 5 [] (.s (.p (.o (.st (.pair .str (.pair .bool (.slice (.st (.pair (.int .i64) (.int .i64)))))))) (.d (.slice (.st (.pair (.int .i64) (.int .i64)))))))], [], (some (0, [.box 5 [] (.s (.p (.o (.st (.pair .str (.pair .bool (.slice (.st (.pair (.int .i64) (.int .i64)))))))) (.d (.slice (.st (.pair (.int .i64) (.int .i64)))))))]))⟩)] (.pair T_api_Shape (.int .i64)) T_api_Shape x = ref07_Rename k x := by kernel_rfl
theorem ref07_Rename_spec (k : Nat) : SpecOk Try.prog GG 35 ⟨(.pair T_api_Shape (.int .i64)), T_api_Shape, ref07_Rename k⟩ :=
  fn_spec (envOk (E := { T := T, specs := [(19, ⟨T_api_Shape, .bool, ref07_May k⟩), (70, ⟨(.pair (.slice T_api_Atom) (.int .i64)), (.slice T_api_Atom), ref06_Rename k⟩)], codes := codes, k := k, inpl := [(92, ⟨T_api_Atom, 93, sortF⟩)], ins := [(88, T_api_Field, 48)], calm := [58] }) tabOk (.cons (ref07_May_spec k) f19_at f19_ok <| .cons (ref06_Rename_spec k) f70_at f70_ok <| .nil) codesOk mixedOk (fun _ _ _ _ => trivial) (hi := inplOk) (hj := insOk)) f35_at (fun x => (ref07_Rename_eq k x).symm)
noncomputable def law07_ObjectWrites : (k : Nat) → (Ty.D (.pair T_api_Shape (.pair .str (.slice T_api_Atom)))) → Option (Ty.D .bool) := fun (k : Nat) (x : (T_api_Shape.pair (Ty.str.pair T_api_Atom.slice)).D) => P.bind (law07_small k x.fst) fun (r : Bool) => P.cond (P.not r) (P.bind (law07_fixed k PUnit.unit) fun (r : Bool) => some r) (P.cond (P.ilt ((60 : Int)) (P.len x.snd.snd)) (P.bind (law07_fixed k PUnit.unit) fun (r : Bool) => some r) (P.cond (P.ilt ((0 : Int)) (P.len x.snd.snd)) (P.cond (P.inb ((0 : Int)) (P.len x.snd.snd)) (P.bind (law07_fixed k PUnit.unit) fun (r : Bool) => P.cond r (P.bind (object_Strong k (x.fst, x.snd.fst, x.snd.snd)) fun (r : List (ByteArray × Bool × List (Int × Int)) × List (Int × Int)) => P.bind (ref07_Strong k (x.fst, x.snd.fst, x.snd.snd)) fun (r_1 : List (ByteArray × Bool × List (Int × Int)) × List (Int × Int)) => P.bind (ref07_Same k (r, r_1)) fun (r : Bool) => P.cond r (P.bind (object_Weak k (x.fst, x.snd.fst, x.snd.snd)) fun (r : List (ByteArray × Bool × List (Int × Int)) × List (Int × Int)) => P.bind (ref07_Weak k (x.fst, x.snd.fst, x.snd.snd)) fun (r_2 : List (ByteArray × Bool × List (Int × Int)) × List (Int × Int)) => P.bind (ref07_Same k (r, r_2)) fun (r : Bool) => P.cond r (P.bind (object_Rename k (x.fst, (P.get x.snd.snd ((0 : Int)) ((0 : Int), (0 : Int))).snd)) fun (r : List (ByteArray × Bool × List (Int × Int)) × List (Int × Int)) => P.bind (ref07_Rename k (x.fst, (P.get x.snd.snd ((0 : Int)) ((0 : Int), (0 : Int))).snd)) fun (r_3 : List (ByteArray × Bool × List (Int × Int)) × List (Int × Int)) => P.bind (ref07_Same k (r, r_3)) fun (r : Bool) => some r) (some false)) (some false)) (some false)) none) (P.bind (law07_fixed k PUnit.unit) fun (r : Bool) => P.cond r (P.bind (object_Strong k (x.fst, x.snd.fst, x.snd.snd)) fun (r : List (ByteArray × Bool × List (Int × Int)) × List (Int × Int)) => P.bind (ref07_Strong k (x.fst, x.snd.fst, x.snd.snd)) fun (r_1 : List (ByteArray × Bool × List (Int × Int)) × List (Int × Int)) => P.bind (ref07_Same k (r, r_1)) fun (r : Bool) => P.cond r (P.bind (object_Weak k (x.fst, x.snd.fst, x.snd.snd)) fun (r : List (ByteArray × Bool × List (Int × Int)) × List (Int × Int)) => P.bind (ref07_Weak k (x.fst, x.snd.fst, x.snd.snd)) fun (r_2 : List (ByteArray × Bool × List (Int × Int)) × List (Int × Int)) => P.bind (ref07_Same k (r, r_2)) fun (r : Bool) => P.cond r (P.bind (object_Rename k (x.fst, (0 : Int))) fun (r : List (ByteArray × Bool × List (Int × Int)) × List (Int × Int)) => P.bind (ref07_Rename k (x.fst, (0 : Int))) fun (r_3 : List (ByteArray × Bool × List (Int × Int)) × List (Int × Int)) => P.bind (ref07_Same k (r, r_3)) fun (r : Bool) => some r) (some false)) (some false)) (some false))))
theorem law07_ObjectWrites_eq (k : Nat) (x : (Ty.D (.pair T_api_Shape (.pair .str (.slice T_api_Atom))))) : evFn { T := T, specs := [(14, ⟨T_api_Shape, .bool, law07_small k⟩), (15, ⟨.unit, .bool, law07_fixed k⟩), (21, ⟨(.pair T_api_Shape T_api_Shape), .bool, ref07_Same k⟩), (27, ⟨(.pair T_api_Shape (.pair .str (.slice T_api_Atom))), T_api_Shape, object_Weak k⟩), (28, ⟨(.pair T_api_Shape (.pair .str (.slice T_api_Atom))), T_api_Shape, object_Strong k⟩), (32, ⟨(.pair T_api_Shape (.pair .str (.slice T_api_Atom))), T_api_Shape, ref07_Strong k⟩), (33, ⟨(.pair T_api_Shape (.pair .str (.slice T_api_Atom))), T_api_Shape, ref07_Weak k⟩), (34, ⟨(.pair T_api_Shape (.int .i64)), T_api_Shape, object_Rename k⟩), (35, ⟨(.pair T_api_Shape (.int .i64)), T_api_Shape, ref07_Rename k⟩)], codes := codes, k := k, inpl := [(92, ⟨T_api_Atom, 93, sortF⟩)], ins := [(88, T_api_Field, 48)], calm := [58] } 6 Try.f7 [] (.pair T_api_Shape (.pair .str (.slice T_api_Atom))) .bool x = law07_ObjectWrites k x := by kernel_rfl
theorem law07_ObjectWrites_spec (k : Nat) : SpecOk Try.prog GG 7 ⟨(.pair T_api_Shape (.pair .str (.slice T_api_Atom))), .bool, law07_ObjectWrites k⟩ :=
  fn_spec (envOk (E := { T := T, specs := [(14, ⟨T_api_Shape, .bool, law07_small k⟩), (15, ⟨.unit, .bool, law07_fixed k⟩), (21, ⟨(.pair T_api_Shape T_api_Shape), .bool, ref07_Same k⟩), (27, ⟨(.pair T_api_Shape (.pair .str (.slice T_api_Atom))), T_api_Shape, object_Weak k⟩), (28, ⟨(.pair T_api_Shape (.pair .str (.slice T_api_Atom))), T_api_Shape, object_Strong k⟩), (32, ⟨(.pair T_api_Shape (.pair .str (.slice T_api_Atom))), T_api_Shape, ref07_Strong k⟩), (33, ⟨(.pair T_api_Shape (.pair .str (.slice T_api_Atom))), T_api_Shape, ref07_Weak k⟩), (34, ⟨(.pair T_api_Shape (.int .i64)), T_api_Shape, object_Rename k⟩), (35, ⟨(.pair T_api_Shape (.int .i64)), T_api_Shape, ref07_Rename k⟩)], codes := codes, k := k, inpl := [(92, ⟨T_api_Atom, 93, sortF⟩)], ins := [(88, T_api_Field, 48)], calm := [58] }) tabOk (.cons (law07_small_spec k) f14_at f14_ok <| .cons (law07_fixed_spec k) f15_at f15_ok <| .cons (ref07_Same_spec k) f21_at f21_ok <| .cons (object_Weak_spec k) f27_at f27_ok <| .cons (object_Strong_spec k) f28_at f28_ok <| .cons (ref07_Strong_spec k) f32_at f32_ok <| .cons (ref07_Weak_spec k) f33_at f33_ok <| .cons (object_Rename_spec k) f34_at f34_ok <| .cons (ref07_Rename_spec k) f35_at f35_ok <| .nil) codesOk mixedOk (fun _ _ _ _ => trivial) (hi := inplOk) (hj := insOk)) f7_at (fun x => (law07_ObjectWrites_eq k x).symm)
noncomputable def law07_ObjectRenamed : (k : Nat) → (Ty.D (.pair T_api_Shape (.pair T_api_Shape (.int .i64)))) → Option (Ty.D .bool) := fun (k : Nat) (x : (T_api_Shape.pair (T_api_Shape.pair (Ty.int IntKind.i64))).D) => P.bind (law07_fixed k PUnit.unit) fun (r : Bool) => P.cond (P.not r) (P.bind (law07_fixed k PUnit.unit) fun (r : Bool) => some r) (P.bind (law07_small k x.fst) fun (r : Bool) => P.cond (P.not r) (P.bind (law07_fixed k PUnit.unit) fun (r : Bool) => some r) (P.bind (law07_small k x.snd.fst) fun (r : Bool) => P.cond (P.not r) (P.bind (law07_fixed k PUnit.unit) fun (r : Bool) => some r) (P.bind (object_May k x.fst) fun (r : Bool) => P.cond (P.not r) (P.bind (law07_fixed k PUnit.unit) fun (r : Bool) => some r) (P.bind (object_May k x.snd.fst) fun (r : Bool) => P.cond (P.not r) (P.bind (law07_fixed k PUnit.unit) fun (r : Bool) => some r) (P.bind (object_Rename k (x.fst, x.snd.snd)) fun (r : List (ByteArray × Bool × List (Int × Int)) × List (Int × Int)) => P.bind (object_Rename k (x.snd.fst, x.snd.snd)) fun (r_1 : List (ByteArray × Bool × List (Int × Int)) × List (Int × Int)) => P.bind (object_Join k (x.fst, x.snd.fst)) fun (r_2 : List (ByteArray × Bool × List (Int × Int)) × List (Int × Int)) => P.bind (object_Rename k (r_2, x.snd.snd)) fun (r_3 : List (ByteArray × Bool × List (Int × Int)) × List (Int × Int)) => P.bind (object_Join k (r, r_1)) fun (r_4 : List (ByteArray × Bool × List (Int × Int)) × List (Int × Int)) => P.bind (ref07_Same k (r_3, r_4)) fun (r_5 : Bool) => P.cond r_5 (P.bind (object_Within k (x.fst, x.snd.fst)) fun (r_6 : Bool) => P.cond (P.not r_6) (P.bind (object_Rename k (r, x.snd.snd)) fun (r_7 : List (ByteArray × Bool × List (Int × Int)) × List (Int × Int)) => P.bind (ref07_Same k (r_7, r)) fun (r : Bool) => some r) (P.bind (object_Within k (r, r_1)) fun (r_7 : Bool) => P.cond r_7 (P.bind (object_Rename k (r, x.snd.snd)) fun (r_8 : List (ByteArray × Bool × List (Int × Int)) × List (Int × Int)) => P.bind (ref07_Same k (r_8, r)) fun (r : Bool) => some r) (some false))) (some false))))))
theorem law07_ObjectRenamed_eq (k : Nat) (x : (Ty.D (.pair T_api_Shape (.pair T_api_Shape (.int .i64))))) : evFn { T := T, specs := [(14, ⟨T_api_Shape, .bool, law07_small k⟩), (15, ⟨.unit, .bool, law07_fixed k⟩), (18, ⟨T_api_Shape, .bool, object_May k⟩), (21, ⟨(.pair T_api_Shape T_api_Shape), .bool, ref07_Same k⟩), (22, ⟨(.pair T_api_Shape T_api_Shape), T_api_Shape, object_Join k⟩), (24, ⟨(.pair T_api_Shape T_api_Shape), .bool, object_Within k⟩), (34, ⟨(.pair T_api_Shape (.int .i64)), T_api_Shape, object_Rename k⟩)], codes := codes, k := k, inpl := [(92, ⟨T_api_Atom, 93, sortF⟩)], ins := [(88, T_api_Field, 48)], calm := [58] } 6 Try.f8 [] (.pair T_api_Shape (.pair T_api_Shape (.int .i64))) .bool x = law07_ObjectRenamed k x := by kernel_rfl
theorem law07_ObjectRenamed_spec (k : Nat) : SpecOk Try.prog GG 8 ⟨(.pair T_api_Shape (.pair T_api_Shape (.int .i64))), .bool, law07_ObjectRenamed k⟩ :=
  fn_spec (envOk (E := { T := T, specs := [(14, ⟨T_api_Shape, .bool, law07_small k⟩), (15, ⟨.unit, .bool, law07_fixed k⟩), (18, ⟨T_api_Shape, .bool, object_May k⟩), (21, ⟨(.pair T_api_Shape T_api_Shape), .bool, ref07_Same k⟩), (22, ⟨(.pair T_api_Shape T_api_Shape), T_api_Shape, object_Join k⟩), (24, ⟨(.pair T_api_Shape T_api_Shape), .bool, object_Within k⟩), (34, ⟨(.pair T_api_Shape (.int .i64)), T_api_Shape, object_Rename k⟩)], codes := codes, k := k, inpl := [(92, ⟨T_api_Atom, 93, sortF⟩)], ins := [(88, T_api_Field, 48)], calm := [58] }) tabOk (.cons (law07_small_spec k) f14_at f14_ok <| .cons (law07_fixed_spec k) f15_at f15_ok <| .cons (object_May_spec k) f18_at f18_ok <| .cons (ref07_Same_spec k) f21_at f21_ok <| .cons (object_Join_spec k) f22_at f22_ok <| .cons (object_Within_spec k) f24_at f24_ok <| .cons (object_Rename_spec k) f34_at f34_ok <| .nil) codesOk mixedOk (fun _ _ _ _ => trivial) (hi := inplOk) (hj := insOk)) f8_at (fun x => (law07_ObjectRenamed_eq k x).symm)
end
section
/- Plain lemmas on what the evaluator's functions are made of. -/
namespace Go.PL
open Go.PG

theorem cond_eq {α : Type} (b : Bool) (x y : α) : P.cond b x y = if b = true then x else y := by cases b <;> rfl
theorem cond_true {α : Type} (x y : α) : P.cond true x y = x := rfl
theorem cond_false {α : Type} (x y : α) : P.cond false x y = y := rfl
theorem bind_some {α β : Type} (a : α) (f : α → Option β) : P.bind (some a) f = f a := rfl
theorem bind_none {α β : Type} (f : α → Option β) : P.bind none f = none := rfl
theorem either_inl {α β γ : Type} (f : α → γ) (g : β → γ) (a : α) : P.either f g (.inl a) = f a := rfl
theorem either_inr {α β γ : Type} (f : α → γ) (g : β → γ) (b : β) : P.either f g (.inr b) = g b := rfl

/-! ### loops -/
section
variable {τ ρ : Type} {f : τ → Option (τ ⊕ ρ)}
theorem iter_succ (k : Nat) (x : τ) : P.iter (k + 1) f x = match f x with
    | none => none
    | some (.inl y) => P.iter k f y
    | some (.inr r) => some r := rfl
theorem iter_step {k : Nat} {x y : τ} (hk : 0 < k) (h : f x = some (.inl y)) : P.iter k f x = P.iter (k - 1) f y := by
  obtain ⟨k, rfl⟩ : ∃ m, k = m + 1 := ⟨k - 1, by omega⟩
  rw [iter_succ, h]; rfl
theorem iter_done {k : Nat} {x : τ} {r : ρ} (hk : 0 < k) (h : f x = some (.inr r)) : P.iter k f x = some r := by
  obtain ⟨k, rfl⟩ : ∃ m, k = m + 1 := ⟨k - 1, by omega⟩
  rw [iter_succ, h]
/-- A loop that goes through states told ahead. -/
theorem iter_run (s : Nat → τ) (r : ρ) : ∀ (n i k : Nat), n < k → (∀ j, j < n → f (s (i + j)) = some (.inl (s (i + j + 1)))) → f (s (i + n)) = some (.inr r) → P.iter k f (s i) = some r := by
  intro n
  induction n with
  | zero => intro i k hk _ he; exact iter_done (by omega) (by simpa using he)
  | succ n ih =>
    intro i k hk hs he
    rw [iter_step (x := s i) (y := s (i + 1)) (by omega) (by simpa using hs 0 (by omega))]
    refine ih (i + 1) (k - 1) (by omega) (fun j hj => ?_) (by rw [show i + 1 + n = i + (n + 1) by omega]; exact he)
    have := hs (j + 1) (by omega)
    rw [show i + 1 + j = i + (j + 1) by omega]
    exact this
/-- A count from i up to n that ends where something is found. -/
theorem iter_find {f : Int → Option (Int ⊕ ρ)} {n : Nat} {e : ρ} (g : Nat → Option ρ) (hs : ∀ i : Nat, i < n → f (i : Int) = some (match g i with
    | none => .inl ((i + 1 : Nat) : Int)
    | some r => .inr r)) (he : f (n : Int) = some (.inr e)) : ∀ (d i k : Nat), i + d = n → d < k → P.iter k f (i : Int) = some (((List.range' i d).findSome? g).getD e) := by
  intro d
  induction d with
  | zero =>
    intro i k hi hk
    obtain rfl : i = n := by omega
    exact iter_done (by omega) he
  | succ d ih =>
    intro i k hi hk
    have h := hs i (by omega)
    rw [List.range'_succ, List.findSome?_cons]
    cases q : g i with
    | none =>
      rw [q] at h
      simp only at h ⊢
      rw [iter_step (by omega) h]
      exact ih (i + 1) (k - 1) (by omega) (by omega)
    | some r =>
      rw [q] at h
      simp only at h
      rw [iter_done (by omega) h]
      rfl
theorem iter_find0 {f : Int → Option (Int ⊕ ρ)} {n : Nat} {e : ρ} (g : Nat → Option ρ) (k : Nat) (hs : ∀ i : Nat, i < n → f (i : Int) = some (match g i with
    | none => .inl ((i + 1 : Nat) : Int)
    | some r => .inr r)) (he : f (n : Int) = some (.inr e)) (hk : n < k) : P.iter k f 0 = some (((List.range n).findSome? g).getD e) := by
  have := iter_find g hs he n 0 k (by omega) hk
  rw [List.range_eq_range']
  exact this
theorem iter_all {f : Int → Option (Int ⊕ ρ)} {n : Nat} {e r : ρ} (p : Nat → Prop) [DecidablePred p] (k : Nat) (hs : ∀ i : Nat, i < n → f (i : Int) = some (if p i then .inl ((i + 1 : Nat) : Int) else .inr r)) (he : f (n : Int) = some (.inr e)) (hk : n < k) :
    P.iter k f 0 = some (if ∀ i, i < n → p i then e else r) := by
  rw [iter_find0 (n := n) (e := e) (fun i => if p i then none else some r) k (fun i hi => by rw [hs i hi]; by_cases h : p i <;> simp [h]) he hk]
  by_cases h : ∀ i, i < n → p i
  · rw [if_pos h]
    have : (List.range n).findSome? (fun i => if p i then none else some r) = none := by
      rw [List.findSome?_eq_none_iff]
      intro i hi
      simp [h i (List.mem_range.1 hi)]
    rw [this]; rfl
  · rw [if_neg h]
    have hh : ∃ i, i < n ∧ ¬ p i := by
      apply Classical.byContradiction
      intro q
      exact h fun i hi => Classical.byContradiction fun z => q ⟨i, hi, z⟩
    obtain ⟨i, hi, hp⟩ := hh
    have : ∃ y, (List.range n).findSome? (fun i => if p i then none else some r) = some y := by
      rw [← Option.isSome_iff_exists, List.findSome?_isSome_iff]
      exact ⟨i, List.mem_range.2 hi, by simp [hp]⟩
    obtain ⟨y, hy⟩ := this
    rw [hy]
    obtain ⟨j, _, hj⟩ := List.exists_of_findSome?_eq_some hy
    by_cases q : p j
    · simp [q] at hj
    · simp [q] at hj; simp [hj]
/-- A count that carries a state, and goes all the way. -/
theorem iter_fold {σ : Type} {f : Int × σ → Option ((Int × σ) ⊕ ρ)} {n : Nat} {e : σ → ρ} (g : σ → Nat → σ) (inv : Nat → σ → Prop) (k : Nat) (s0 : σ) (h0 : inv 0 s0)
    (hs : ∀ (i : Nat) s, i < n → inv i s → f ((i : Int), s) = some (.inl (((i + 1 : Nat) : Int), g s i)) ∧ inv (i + 1) (g s i)) (he : ∀ s, inv n s → f ((n : Int), s) = some (.inr (e s))) (hk : n < k) :
    P.iter k f (0, s0) = some (e ((List.range n).foldl g s0)) ∧ inv n ((List.range n).foldl g s0) := by
  have key : ∀ (d i k : Nat) (s : σ), i + d = n → d < k → inv i s → P.iter k f ((i : Int), s) = some (e ((List.range' i d).foldl g s)) ∧ inv n ((List.range' i d).foldl g s) := by
    intro d
    induction d with
    | zero =>
      intro i k s hi hk hv
      obtain rfl : i = n := by omega
      exact ⟨iter_done (by omega) (he s hv), hv⟩
    | succ d ih =>
      intro i k s hi hk hv
      obtain ⟨h1, h2⟩ := hs i s (by omega) hv
      rw [iter_step (by omega) h1, List.range'_succ, List.foldl_cons]
      exact ih (i + 1) (k - 1) _ (by omega) (by omega) h2
  have := key n 0 k s0 (by omega) hk h0
  rw [List.range_eq_range']
  exact this
end

/-! ### numbers -/
theorem ieq_iff {x y : Int} : P.ieq x y = true ↔ x = y := by simp [P.ieq]
theorem ieq_eq (x y : Int) : P.ieq x y = decide (x = y) := by rw [Bool.eq_iff_iff]; simp [P.ieq]
theorem ilt_iff {x y : Int} : P.ilt x y = true ↔ x < y := by simp [P.ilt]
theorem ile_iff {x y : Int} : P.ile x y = true ↔ x ≤ y := by simp [P.ile]
theorem inb_iff {i n : Int} : P.inb i n = true ↔ 0 ≤ i ∧ i < n := by simp [P.inb]
theorem wrap_i64 {x : Int} (h0 : -9223372036854775808 ≤ x) (h1 : x < 9223372036854775808) : P.wrap .i64 x = x := by
  show IntKind.i64.wrap x = x
  simp only [IntKind.wrap, IntKind.bits, IntKind.signed]
  simp
  omega
theorem wrap_nat {n : Nat} (h : n < 9223372036854775808) : P.wrap .i64 (n : Int) = n := wrap_i64 (by omega) (by omega)
theorem wrap_succ {n : Nat} (h : n + 1 < 9223372036854775808) : P.wrap .i64 (P.add (n : Int) 1) = ((n + 1 : Nat) : Int) := by
  rw [wrap_i64 (by simp [P.add]; omega) (by simp [P.add]; omega)]; simp [P.add]
theorem wrap_u64 {x : Int} (h0 : 0 ≤ x) (h1 : x < 18446744073709551616) : P.wrap .u64 x = x := by
  show IntKind.u64.wrap x = x
  simp only [IntKind.wrap, IntKind.bits, IntKind.signed]
  simp
  omega

theorem wrap_pred {n : Nat} (h0 : 0 < n) (h : n < 9223372036854775808) : P.wrap .i64 (P.sub (n : Int) 1) = ((n - 1 : Nat) : Int) := by
  rw [wrap_i64 (by simp [P.sub]; omega) (by simp [P.sub]; omega)]; simp [P.sub]; omega
theorem not_iff {b : Bool} : P.not b = true ↔ ¬ b = true := by cases b <;> simp [P.not]
theorem and_iff {a b : Bool} : P.and a b = true ↔ a = true ∧ b = true := by simp [P.and]
theorem beq_iff {a b : Bool} : P.beq a b = true ↔ a = b := by simp [P.beq]
theorem cut_iff {l u n : Int} : P.cut l u n = true ↔ 0 ≤ l ∧ l ≤ u ∧ u ≤ n := by simp [P.cut, and_assoc]
theorem room_iff {n : Int} {b : Nat} : P.room n b = true ↔ n.toNat * b ≤ 35184372088832 := by simp [P.room]

theorem room_nat {a b n : Nat} : P.room (P.add (a : Int) (b : Int)) n = true ↔ (a + b) * n ≤ 35184372088832 := by
  rw [room_iff]
  have : (P.add (a : Int) (b : Int)).toNat = a + b := by simp [P.add]; omega
  rw [this]
/-! ### lists -/
theorem get_nat {α : Type} (l : List α) (i : Nat) (d : α) : P.get l (i : Int) d = l.getD i d := by simp [P.get]
theorem get_lt {α : Type} (l : List α) {i : Nat} (h : i < l.length) (d : α) : P.get l (i : Int) d = l[i] := by simp [P.get, h]
theorem len_eq {α : Type} (l : List α) : P.len l = (l.length : Int) := rfl

/-! ### strings -/
def ltS (a b : ByteArray) : Prop := a.data.toList < b.data.toList
instance (a b : ByteArray) : Decidable (ltS a b) := inferInstanceAs (Decidable (a.data.toList < b.data.toList))
theorem ba_ext {a b : ByteArray} (h : a.data.toList = b.data.toList) : a = b := by
  cases a; cases b; simp at h; simp [h]
theorem bytesLess_eq : ∀ (x y : List UInt8), Op.bytesLess x y = decide (x < y)
  | [], [] => by simp [Op.bytesLess]
  | _ :: _, [] => by simp [Op.bytesLess]
  | [], _ :: _ => by simp [Op.bytesLess]
  | a :: x, b :: y => by
    rw [Op.bytesLess, bytesLess_eq x y]
    simp only [List.cons_lt_cons_iff]
    by_cases h1 : a < b <;> by_cases h2 : a = b <;> by_cases h3 : x < y <;> simp [h1, h2, h3]
theorem slt_iff {a b : ByteArray} : P.slt a b = true ↔ ltS a b := by
  unfold P.slt ltS
  rw [bytesLess_eq, ByteArray.toList_eq, ByteArray.toList_eq]
  simp
theorem seq_iff {a b : ByteArray} : P.seq a b = true ↔ a = b := by
  unfold P.seq
  rw [ByteArray.toList_eq, ByteArray.toList_eq]
  simp only [beq_iff_eq]
  exact ⟨ba_ext, fun h => by rw [h]⟩
theorem sle_iff {a b : ByteArray} : P.sle a b = true ↔ (ltS a b ∨ a = b) := by
  have h1 : Op.bytesLess a.toList b.toList = P.slt a b := rfl
  have h2 : (a.toList == b.toList) = P.seq a b := rfl
  unfold P.sle
  rw [h1, h2, Bool.or_eq_true, slt_iff, seq_iff]
theorem ltS_irrefl (a : ByteArray) : ¬ ltS a a := List.lt_irrefl _
theorem ltS_trans {a b c : ByteArray} (h1 : ltS a b) (h2 : ltS b c) : ltS a c := List.lt_trans h1 h2
theorem ltS_asymm {a b : ByteArray} (h1 : ltS a b) : ¬ ltS b a := List.lt_asymm h1
theorem ltS_tri (a b : ByteArray) : ltS a b ∨ a = b ∨ ltS b a := by
  by_cases h1 : ltS a b
  · exact .inl h1
  · by_cases h2 : ltS b a
    · exact .inr (.inr h2)
    · exact .inr (.inl (ba_ext (List.le_antisymm (List.not_lt.1 h2) (List.not_lt.1 h1))))
theorem cmp_spec : ∀ (x y : List UInt8), (Lib.compareBytes x y < 0 ↔ x < y) ∧ (Lib.compareBytes x y = 0 ↔ x = y) ∧ -1 ≤ Lib.compareBytes x y ∧ Lib.compareBytes x y ≤ 1
  | [], [] => by simp [Lib.compareBytes]
  | [], _ :: _ => by simp [Lib.compareBytes]
  | _ :: _, [] => by simp [Lib.compareBytes]
  | a :: x, b :: y => by
    have ih := cmp_spec x y
    simp only [Lib.compareBytes, List.cons_lt_cons_iff, List.cons.injEq]
    by_cases h1 : a < b
    · have : a ≠ b := fun h => by subst h; exact absurd h1 (by simp)
      simp [h1, this]
    · by_cases h2 : b < a
      · have : a ≠ b := fun h => by subst h; exact absurd h2 (by simp)
        simp [h1, h2, this]
      · have : a = b := UInt8.le_antisymm (UInt8.not_lt.1 h2) (UInt8.not_lt.1 h1)
        subst this
        simp only [h1, if_false, true_and, false_or]
        exact ih
def cmpS (a b : ByteArray) : Int := Lib.compareBytes a.data.toList b.data.toList
theorem cmpS_lt {a b : ByteArray} : cmpS a b < 0 ↔ ltS a b := (cmp_spec _ _).1
theorem cmpS_eq {a b : ByteArray} : cmpS a b = 0 ↔ a = b := (cmp_spec _ _).2.1.trans ⟨ba_ext, fun h => by rw [h]⟩
end Go.PL
end
section
/- The text of atoms.Norm, in parts. -/
open Go Go.PG Go.PL
set_option linter.unusedVariables false
namespace Go.PL
noncomputable def compactT (k : Nat) (ys : List (Int × Int)) : Option (List (Int × Int)) := P.cond (P.ilt (P.len ys) ((2 : Int))) (some ys) (P.bind (P.iter k (fun (y : Int × List (Int × Int)) => P.cond (P.ilt y.fst (P.len y.snd)) (P.cond (P.inb y.fst (P.len y.snd)) (P.cond (P.inb (P.wrap IntKind.i64 (P.sub y.fst ((1 : Int)))) (P.len y.snd)) (P.cond (P.and (P.ieq (P.get y.snd y.fst ((0 : Int), (0 : Int))).fst (P.get y.snd (P.wrap IntKind.i64 (P.sub y.fst ((1 : Int)))) ((0 : Int), (0 : Int))).fst) (P.ieq (P.get y.snd y.fst ((0 : Int), (0 : Int))).snd (P.get y.snd (P.wrap IntKind.i64 (P.sub y.fst ((1 : Int)))) ((0 : Int), (0 : Int))).snd)) (P.cond (P.cut y.fst (P.len y.snd) (P.len y.snd)) (P.bind (P.iter k (fun (y_1 : Int × Int × List (Int × Int)) => P.cond (P.ilt y_1.snd.fst (P.sub (P.len y.snd) y.fst)) (P.cond (P.inb y_1.snd.fst (P.sub (P.len y.snd) y.fst)) (P.cond (P.inb (P.wrap IntKind.i64 (P.sub y_1.snd.fst ((1 : Int)))) (P.sub (P.len y.snd) y.fst)) (P.cond (P.not (P.and (P.ieq (P.get y_1.snd.snd (P.add y.fst y_1.snd.fst) ((0 : Int), (0 : Int))).fst (P.get y_1.snd.snd (P.add y.fst (P.wrap IntKind.i64 (P.sub y_1.snd.fst ((1 : Int))))) ((0 : Int), (0 : Int))).fst) (P.ieq (P.get y_1.snd.snd (P.add y.fst y_1.snd.fst) ((0 : Int), (0 : Int))).snd (P.get y_1.snd.snd (P.add y.fst (P.wrap IntKind.i64 (P.sub y_1.snd.fst ((1 : Int))))) ((0 : Int), (0 : Int))).snd))) (P.cond (P.inb y_1.snd.fst (P.sub (P.len y.snd) y.fst)) (P.cond (P.inb y_1.fst (P.len y_1.snd.snd)) (some (Sum.inl (P.wrap IntKind.i64 (P.add y_1.fst ((1 : Int))), P.wrap IntKind.i64 (P.add y_1.snd.fst ((1 : Int))), P.set y_1.snd.snd y_1.fst (P.get y_1.snd.snd (P.add y.fst y_1.snd.fst) ((0 : Int), (0 : Int)))))) none) none) (some (Sum.inl (y_1.fst, P.wrap IntKind.i64 (P.add y_1.snd.fst ((1 : Int))), y_1.snd.snd)))) none) none) (some (Sum.inr (Sum.inl (y_1.fst, y_1.snd.snd))))) (y.fst, (1 : Int), y.snd)) (P.either (fun (z : Int × List (Int × Int)) => P.cond (P.cut z.fst (P.len z.snd) (P.len z.snd)) (P.cond (P.cut ((0 : Int)) z.fst (P.len (P.fill z.snd z.fst (P.sub (P.len z.snd) z.fst) ((0 : Int), (0 : Int))))) (some (Sum.inr (Sum.inr (P.sub_ (P.fill z.snd z.fst (P.sub (P.len z.snd) z.fst) ((0 : Int), (0 : Int))) ((0 : Int)) z.fst)))) none) none) fun (r : Int × List (Int × Int) ⊕ List (Int × Int) ⊕ List (Int × Int)) => some r)) none) (some (Sum.inl (P.wrap IntKind.i64 (P.add y.fst ((1 : Int))), y.snd)))) none) none) (some (Sum.inr (Sum.inl y.snd)))) ((1 : Int), ys)) (P.either (fun (z : List (Int × Int)) => some z) fun (r : List (Int × Int)) => some r))
noncomputable def shiftT (k : Nat) (s : Int) (x : List (Int × Int)) : Option (List (Int × Int)) := (P.bind (P.iter k (fun (y : Int × Int × List (Int × Int)) => P.cond (P.ilt y.snd.fst (P.len y.snd.snd)) (P.cond (P.inb y.snd.fst (P.len y.snd.snd)) (P.bind (atoms_Norm_1 k (P.get y.snd.snd y.snd.fst ((0 : Int), (0 : Int)))) fun (r : Bool) => P.cond (P.not r) (P.cond (P.inb y.fst (P.len y.snd.snd)) (some (Sum.inl (P.wrap IntKind.i64 (P.add y.fst ((1 : Int))), P.wrap IntKind.i64 (P.add y.snd.fst ((1 : Int))), P.set y.snd.snd y.fst (P.get y.snd.snd y.snd.fst ((0 : Int), (0 : Int)))))) none) (some (Sum.inl (y.fst, P.wrap IntKind.i64 (P.add y.snd.fst ((1 : Int))), y.snd.snd)))) none) (some (Sum.inr (Sum.inl (y.fst, y.snd.snd))))) (s, P.wrap IntKind.i64 (P.add s ((1 : Int))), P.app [] x)) (P.either (fun (z : Int × List (Int × Int)) => P.cond (P.cut z.fst (P.len z.snd) (P.len z.snd)) (P.cond (P.cut ((0 : Int)) z.fst (P.len (P.fill z.snd z.fst (P.sub (P.len z.snd) z.fst) ((0 : Int), (0 : Int))))) (P.bind (sortF (P.sub_ (P.fill z.snd z.fst (P.sub (P.len z.snd) z.fst) ((0 : Int), (0 : Int))) ((0 : Int)) z.fst)) fun (ys : List (Int × Int)) => compactT k ys) none) none) fun (r : List (Int × Int)) => some r))
noncomputable def delT (k : Nat) (x : List (Int × Int)) : Option (List (Int × Int)) := (P.bind (P.iter k (fun (y : Int) => P.cond (P.ilt y (P.len (P.app [] x))) (P.cond (P.inb y (P.len (P.app [] x))) (P.bind (atoms_Norm_1 k (P.get (P.app [] x) y ((0 : Int), (0 : Int)))) fun (r : Bool) => P.cond r (P.map (fun (r : List (Int × Int)) => Sum.inr (Sum.inr r)) (P.cond (P.ieq y ((-1 : Int))) (P.bind (sortF (P.app [] x)) fun (ys : List (Int × Int)) => compactT k ys) (shiftT k y x))) (some (Sum.inl (P.wrap IntKind.i64 (P.add y ((1 : Int))))))) none) (some (Sum.inr (Sum.inl PUnit.unit)))) ((0 : Int))) (P.either (fun (z : PUnit) => P.cond (P.ieq ((-1 : Int)) ((-1 : Int))) (P.bind (sortF (P.app [] x)) fun (ys : List (Int × Int)) => compactT k ys) (shiftT k (-1 : Int) x)) fun (r : List (Int × Int)) => some r))
noncomputable def nilT (k : Nat) : Option (List (Int × Int)) := (P.bind (P.iter k (fun (y : Int) => P.cond (P.ilt y ((0 : Int))) none (some (Sum.inr (Sum.inl PUnit.unit)))) ((0 : Int))) (P.either (fun (z : PUnit) => P.cond (P.ieq ((-1 : Int)) ((-1 : Int))) (P.bind (sortF []) fun (x : List (Int × Int)) => P.cond (P.ilt ((0 : Int)) ((2 : Int))) (some []) (P.bind (P.iter k (fun (y : Int × List (Int × Int)) => P.cond (P.ilt y.fst ((0 : Int))) none (some (Sum.inr (Sum.inl [])))) ((1 : Int), [])) (P.either (fun (z : List (Int × Int)) => some []) fun (r : List (Int × Int)) => some r))) (P.bind (P.iter k (fun (y : Int × Int × List (Int × Int)) => P.cond (P.ilt y.snd.fst ((0 : Int))) none (some (Sum.inr (Sum.inl (y.fst, []))))) ((-1 : Int), P.wrap IntKind.i64 (P.add ((-1 : Int)) ((1 : Int))), [])) (P.either (fun (z : Int × List (Int × Int)) => P.cond (P.cut z.fst ((0 : Int)) ((0 : Int))) (P.cond (P.cut ((0 : Int)) z.fst ((0 : Int))) (P.bind (sortF []) fun (x : List (Int × Int)) => P.cond (P.ilt ((0 : Int)) ((2 : Int))) (some []) (P.bind (P.iter k (fun (y : Int × List (Int × Int)) => P.cond (P.ilt y.fst ((0 : Int))) none (some (Sum.inr (Sum.inl [])))) ((1 : Int), [])) (P.either (fun (z : List (Int × Int)) => some []) fun (r : List (Int × Int)) => some r))) none) none) fun (r : List (Int × Int)) => some r))) fun (r : List (Int × Int)) => some r))
theorem norm_form (k : Nat) (x : List (Int × Int)) : atoms_Norm k x = P.cond (P.ilt ((0 : Int)) (P.len x)) (P.cond (P.not true) (nilT k) (P.cond (P.room (P.add (P.len (P.nil (Int × Int))) (P.len x)) 16) (delT k x) none)) (P.amb (nilT k) (P.cond (P.room (P.add (P.len (P.nil (Int × Int))) (P.len x)) 16) (delT k x) none)) := rfl
end Go.PL
end
section
/- Lists of atoms: what atoms.Norm computes. -/
open Go Go.PG Go.PL
set_option linter.unusedVariables false
namespace Go.PL
abbrev At := Int × Int
abbrev dA : At := (0, 0)
def ltA (a b : At) : Prop := a.1 < b.1 ∨ (a.1 = b.1 ∧ a.2 < b.2)
instance (a b : At) : Decidable (ltA a b) := by unfold ltA; exact inferInstance
def RightA (a : At) : Prop := (3 ≤ a.1 ∧ a.1 ≤ 5 ∧ 0 ≤ a.2) ∨ ((a.1 = 0 ∨ a.1 = 1 ∨ a.1 = 2 ∨ a.1 = 6) ∧ a.2 = 0)
instance (a : At) : Decidable (RightA a) := by unfold RightA; exact inferInstance
theorem ltA_irrefl (a : At) : ¬ ltA a a := by unfold ltA; omega
theorem ltA_trans {a b c : At} (h1 : ltA a b) (h2 : ltA b c) : ltA a c := by unfold ltA at *; omega
theorem ltA_tri (a b : At) : ltA a b ∨ a = b ∨ ltA b a := by
  obtain ⟨a1, a2⟩ := a; obtain ⟨b1, b2⟩ := b
  simp only [ltA, Prod.mk.injEq]; omega
theorem ltA_asymm {a b : At} (h1 : ltA a b) : ¬ ltA b a := fun h2 => ltA_irrefl _ (ltA_trans h1 h2)

/-- Lists that rise. -/
abbrev Rises (l : List At) : Prop := l.Pairwise ltA
theorem rises_ext : ∀ {l m : List At}, Rises l → Rises m → (∀ z, z ∈ l ↔ z ∈ m) → l = m := by
  intro l
  induction l with
  | nil =>
    intro m _ _ h
    cases m with
    | nil => rfl
    | cons b m => exact absurd ((h b).2 (by simp)) (by simp)
  | cons a l ih =>
    intro m hl hm h
    cases m with
    | nil => exact absurd ((h a).1 (by simp)) (by simp)
    | cons b m =>
      obtain ⟨h1, h2⟩ := List.pairwise_cons.1 hl
      obtain ⟨h3, h4⟩ := List.pairwise_cons.1 hm
      have hab : a = b := by
        rcases List.mem_cons.1 ((h a).1 (by simp)) with q | q
        · exact q
        · rcases List.mem_cons.1 ((h b).2 (by simp)) with q' | q'
          · exact q'.symm
          · exact absurd (ltA_trans (h3 a q) (h1 b q')) (ltA_irrefl _)
      subst hab
      congr 1
      refine ih h2 h4 fun z => ⟨fun hz => ?_, fun hz => ?_⟩
      · rcases List.mem_cons.1 ((h z).1 (List.mem_cons_of_mem _ hz)) with q | q
        · subst q; exact absurd (h1 z hz) (ltA_irrefl _)
        · exact q
      · rcases List.mem_cons.1 ((h z).2 (List.mem_cons_of_mem _ hz)) with q | q
        · subst q; exact absurd (h3 z hz) (ltA_irrefl _)
        · exact q

/-! ### Norm, as the document says it -/
/-- An atom ahead of the first greater one. -/
def insA (x : At) : List At → List At
  | [] => [x]
  | y :: l => if ltA x y then x :: y :: l else y :: insA x l
theorem mem_insA {x z : At} : ∀ {l : List At}, z ∈ insA x l ↔ z = x ∨ z ∈ l := by
  intro l
  induction l with
  | nil => simp [insA]
  | cons y l ih =>
    simp only [insA]
    split
    · simp
    · simp only [List.mem_cons, ih]
      constructor
      · rintro (h | h | h) <;> simp [h]
      · rintro (h | h | h) <;> simp [h]
theorem rises_insA {x : At} : ∀ {l : List At}, Rises l → x ∉ l → Rises (insA x l) := by
  intro l
  induction l with
  | nil => intro _ _; simp [insA, Rises]
  | cons y l ih =>
    intro h hx
    obtain ⟨h1, h2⟩ := List.pairwise_cons.1 h
    simp only [insA]
    split
    · rename_i q
      refine List.pairwise_cons.2 ⟨fun z hz => ?_, h⟩
      rcases List.mem_cons.1 hz with rfl | hz
      · exact q
      · exact ltA_trans q (h1 z hz)
    · rename_i q
      refine List.pairwise_cons.2 ⟨fun z hz => ?_, ih h2 fun z => hx (List.mem_cons_of_mem _ z)⟩
      rcases mem_insA.1 hz with rfl | hz
      · rcases ltA_tri z y with z' | z' | z'
        · exact absurd z' q
        · subst z'; exact absurd (by simp) hx
        · exact z'
      · exact h1 z hz
def addA (l : List At) (x : At) : List At := if RightA x ∧ x ∉ l then insA x l else l
def norm (l : List At) : List At := l.foldl addA []
theorem mem_addA {l : List At} {x z : At} : z ∈ addA l x ↔ z ∈ l ∨ (z = x ∧ RightA x) := by
  unfold addA
  split
  · rename_i h
    rw [mem_insA]
    constructor
    · rintro (q | q)
      · exact .inr ⟨q, h.1⟩
      · exact .inl q
    · rintro (q | q)
      · exact .inr q
      · exact .inl q.1
  · rename_i h
    constructor
    · exact .inl
    · rintro (q | ⟨rfl, q⟩)
      · exact q
      · apply Classical.byContradiction
        intro z'
        exact h ⟨q, z'⟩
theorem rises_addA {l : List At} {x : At} (h : Rises l) : Rises (addA l x) := by
  unfold addA
  split
  · rename_i q; exact rises_insA h q.2
  · exact h
theorem fold_spec : ∀ (l acc : List At), Rises acc → Rises (l.foldl addA acc) ∧ ∀ z, z ∈ l.foldl addA acc ↔ z ∈ acc ∨ (z ∈ l ∧ RightA z) := by
  intro l
  induction l with
  | nil => intro acc h; exact ⟨h, fun z => by simp⟩
  | cons x l ih =>
    intro acc h
    obtain ⟨h1, h2⟩ := ih (addA acc x) (rises_addA h)
    refine ⟨h1, fun z => ?_⟩
    rw [List.foldl_cons, h2, mem_addA, List.mem_cons]
    constructor
    · rintro ((q | ⟨rfl, q⟩) | q)
      · exact .inl q
      · exact .inr ⟨.inl rfl, q⟩
      · exact .inr ⟨.inr q.1, q.2⟩
    · rintro (q | ⟨rfl | q, q'⟩)
      · exact .inl (.inl q)
      · exact .inl (.inr ⟨rfl, q'⟩)
      · exact .inr ⟨q, q'⟩
theorem norm_rises (l : List At) : Rises (norm l) := (fold_spec l [] List.Pairwise.nil).1
theorem mem_norm {l : List At} {z : At} : z ∈ norm l ↔ z ∈ l ∧ RightA z := by
  unfold norm
  rw [(fold_spec l [] List.Pairwise.nil).2]
  simp
/-- May a list be? -/
def Canon (l : List At) : Prop := Rises l ∧ ∀ z, z ∈ l → RightA z
theorem norm_canon (l : List At) : Canon (norm l) := ⟨norm_rises l, fun z h => (mem_norm.1 h).2⟩
theorem norm_eq {l m : List At} (h : Canon m) (hm : ∀ z, RightA z → (z ∈ m ↔ z ∈ l)) : norm l = m :=
  rises_ext (norm_rises l) h.1 fun z => by
    rw [mem_norm]
    exact ⟨fun q => (hm z q.2).2 q.1, fun q => ⟨(hm z (h.2 z q)).1 q, h.2 z q⟩⟩
theorem canon_iff {l : List At} : l = norm l ↔ Canon l := ⟨fun h => by rw [h]; exact norm_canon l, fun h => (norm_eq h fun _ _ => Iff.rfl).symm⟩
theorem norm_nil : norm [] = [] := rfl

/-! ### the order of atoms, sorting -/
def K : Nat := 18446744073709551616
def leB (a b : At) : Bool := decide (a.1 < b.1 ∨ (a.1 = b.1 ∧ a.2 ≤ b.2))
theorem leB_iff {a b : At} : leB a b = true ↔ ¬ ltA b a := by
  unfold leB ltA; rw [decide_eq_true_eq]; omega
theorem sortF_spec (l : List At) (hlen : l.length < 4611686018427387904) : ∃ s, sortF l = some s ∧ s.length = l.length ∧ (∀ z, z ∈ s ↔ z ∈ l) ∧ s.Pairwise (fun a b => ¬ ltA b a) := by
  refine ⟨l.mergeSort leB, by unfold sortF SortC.sortF; rw [if_pos hlen]; rfl, by simp, fun z => List.mem_mergeSort, ?_⟩
  have h := List.pairwise_mergeSort (le := leB) (fun a b c h1 h2 => by
    rw [leB_iff] at *
    intro h3
    rcases ltA_tri a b with q | q | q
    · exact h2 (ltA_trans h3 q)
    · subst q; exact h2 h3
    · exact h1 q) (fun a b => by
    rw [Bool.or_eq_true, leB_iff, leB_iff]
    by_cases q : ltA b a
    · exact .inr (ltA_asymm q)
    · exact .inl q) l
  exact h.imp fun q => leB_iff.1 q
end Go.PL
end
section
/- atoms.Norm computes norm. -/
open Go Go.PG Go.PL
set_option linter.unusedVariables false
namespace Go.PL
theorem at_right (k : Nat) (a : At) : atoms_right k a = some (decide (RightA a)) := by
  obtain ⟨a, b⟩ := a
  unfold atoms_right
  dsimp only
  simp only [cond_eq, ieq_iff]
  repeat' split
  all_goals
    rw [Option.some.injEq, Bool.eq_iff_iff, decide_eq_true_eq]
    simp only [RightA, ieq_iff, ile_iff, Bool.false_eq_true, false_iff]
    omega
theorem at_bad (k : Nat) (a : At) : atoms_Norm_1 k a = some (!decide (RightA a)) := by
  unfold atoms_Norm_1
  rw [at_right, bind_some]
  rfl

theorem getD_set_ne {l : List At} {i j : Nat} (h : i ≠ j) (x : At) : (l.set i x).getD j dA = l.getD j dA := by
  simp [List.getD_eq_getElem?_getD, List.getElem?_set_ne h]
theorem take_set_succ {l : List At} {i : Nat} (h : i < l.length) (x : At) : (l.set i x).take (i + 1) = l.take i ++ [x] := by
  rw [List.take_add_one, List.take_set_of_le (Nat.le_refl i)]
  simp [h]
theorem drop_getD {l : List At} {j : Nat} (h : j < l.length) : l.drop j = l.getD j dA :: l.drop (j + 1) := by
  rw [List.drop_eq_getElem_cons h]
  simp [List.getD_eq_getElem?_getD, h]
theorem take_getD {l : List At} {j : Nat} (h : j < l.length) : l.take (j + 1) = l.take j ++ [l.getD j dA] := by
  rw [List.take_add_one, List.getElem?_eq_getElem h]
  simp [List.getD_eq_getElem?_getD, h]

/-- A loop that keeps, in place, what is good. -/
theorem iter_keep {ρ : Type} {f : Int × Int × List At → Option ((Int × Int × List At) ⊕ ((Int × List At) ⊕ ρ))} (p : At → Bool) (n : Nat) (x : List At) (hn : x.length = n)
    (hs : ∀ (i j : Nat) (xs : List At), i ≤ j → j < n → xs.length = n → xs.getD j dA = x.getD j dA → f ((i : Int), (j : Int), xs) = some (.inl (if p (x.getD j dA) = true then (((i + 1 : Nat) : Int), ((j + 1 : Nat) : Int), xs.set i (x.getD j dA)) else ((i : Int), ((j + 1 : Nat) : Int), xs))))
    (he : ∀ (i : Nat) (xs : List At), i ≤ n → xs.length = n → f ((i : Int), (n : Int), xs) = some (.inr (.inl ((i : Int), xs)))) :
    ∀ (d i j k : Nat) (xs : List At), j + d = n → d < k → i ≤ j → xs.length = n → (∀ m, j ≤ m → xs.getD m dA = x.getD m dA) →
      ∃ (i' : Nat) (xs' : List At), P.iter k f ((i : Int), (j : Int), xs) = some (.inl ((i' : Int), xs')) ∧ i' ≤ n ∧ xs'.length = n ∧ xs'.take i' = xs.take i ++ (x.drop j).filter p := by
  intro d
  induction d with
  | zero =>
    intro i j k xs hj hk hij hl hm
    obtain rfl : j = n := by omega
    refine ⟨i, xs, iter_done (by omega) (he i xs (by omega) hl), by omega, hl, ?_⟩
    rw [List.drop_eq_nil_of_le (by omega)]
    simp
  | succ d ih =>
    intro i j k xs hj hk hij hl hm
    have hstep := hs i j xs hij (by omega) hl (hm j (Nat.le_refl _))
    rw [drop_getD (l := x) (j := j) (by omega)]
    by_cases hp : p (x.getD j dA) = true
    · rw [if_pos hp] at hstep
      obtain ⟨i', xs', h1, h2, h3, h4⟩ := ih (i + 1) (j + 1) (k - 1) (xs.set i (x.getD j dA)) (by omega) (by omega) (by omega) (by simpa using hl) (fun m hm' => by rw [getD_set_ne (by omega)]; exact hm m (by omega))
      refine ⟨i', xs', by rw [iter_step (by omega) hstep]; exact h1, h2, h3, ?_⟩
      rw [h4, take_set_succ (by omega), List.filter_cons_of_pos hp]
      simp
    · rw [if_neg hp] at hstep
      obtain ⟨i', xs', h1, h2, h3, h4⟩ := ih i (j + 1) (k - 1) xs (by omega) (by omega) (by omega) hl (fun m hm' => hm m (by omega))
      refine ⟨i', xs', by rw [iter_step (by omega) hstep]; exact h1, h2, h3, ?_⟩
      rw [h4, List.filter_cons_of_neg hp]

theorem sub_fill {l : List At} {i : Nat} (h : i ≤ l.length) (m : Int) (z : At) : P.sub_ (P.fill l (i : Int) m z) 0 (i : Int) = l.take i := by
  simp only [P.sub_, P.fill, Int.toNat_natCast, Int.toNat_zero, List.drop_zero]
  rw [List.append_assoc, List.take_append_of_le_length (by rw [List.length_take]; omega), List.take_take]
  simp
theorem len_fill {l : List At} {i : Nat} (h : i ≤ l.length) (z : At) : P.len (P.fill l (i : Int) (P.sub (P.len l) (i : Int)) z) = (l.length : Int) := by
  simp only [P.len, P.fill, P.sub, Int.toNat_natCast]
  have : ((l.length : Int) - (i : Int)).toNat = l.length - i := by omega
  rw [this]
  simp
  omega

noncomputable def rest (l : List At) : Option (List At) := P.bind (sortF l) (compactT K)
def good (a : At) : Bool := decide (RightA a)

theorem nil_spec (hc : ∀ ys : List At, ys = [] → True) : nilT K = some [] := by
  have s0 : sortF [] = some [] := by
    obtain ⟨s, h1, h2, _⟩ := sortF_spec [] (by simp)
    rw [h1]
    rw [List.length_eq_zero_iff.1 h2]
  unfold nilT
  rw [iter_done (r := .inl ()) (by unfold K; omega) (by rfl), bind_some, either_inl]
  simp only [s0, bind_some, cond_eq, ieq_iff, ilt_iff]
  rfl

theorem shift_spec (x : List At) (hx : x.length < 9223372036854775808) (i : Nat) (hi : i < x.length) : shiftT K (i : Int) x = rest (x.take i ++ (x.drop (i + 1)).filter good) := by
  unfold shiftT
  have happ : P.app [] x = x := rfl
  rw [happ, wrap_succ (by omega)]
  have fin : ∀ f : Int × Int × List At → Option ((Int × Int × List At) ⊕ ((Int × List At) ⊕ List At)),
      (∀ (i j : Nat) (xs : List At), i ≤ j → j < x.length → xs.length = x.length → xs.getD j dA = x.getD j dA → f ((i : Int), (j : Int), xs) = some (.inl (if good (x.getD j dA) = true then (((i + 1 : Nat) : Int), ((j + 1 : Nat) : Int), xs.set i (x.getD j dA)) else ((i : Int), ((j + 1 : Nat) : Int), xs)))) →
      (∀ (i : Nat) (xs : List At), i ≤ x.length → xs.length = x.length → f ((i : Int), (x.length : Int), xs) = some (.inr (.inl ((i : Int), xs)))) →
      P.bind (P.iter K f ((i : Int), ((i + 1 : Nat) : Int), x)) (P.either (fun (z : Int × List (Int × Int)) => P.cond (P.cut z.fst (P.len z.snd) (P.len z.snd)) (P.cond (P.cut ((0 : Int)) z.fst (P.len (P.fill z.snd z.fst (P.sub (P.len z.snd) z.fst) ((0 : Int), (0 : Int))))) (P.bind (sortF (P.sub_ (P.fill z.snd z.fst (P.sub (P.len z.snd) z.fst) ((0 : Int), (0 : Int))) ((0 : Int)) z.fst)) fun (ys : List (Int × Int)) => compactT K ys) none) none) fun (r : List (Int × Int)) => some r) = rest (x.take i ++ (x.drop (i + 1)).filter good) := by
    intro f hs he
    obtain ⟨i', xs', h1, h2, h3, h4⟩ := iter_keep good x.length x rfl hs he (x.length - (i + 1)) i (i + 1) K x (by omega) (by unfold K; omega) (by omega) rfl (fun _ _ => rfl)
    rw [h1, bind_some, either_inl]
    simp only [cond_eq, cut_iff, len_eq]
    rw [if_pos ⟨by omega, by omega, by omega⟩]
    have hl := len_fill (l := xs') (i := i') (by omega) ((0 : Int), (0 : Int))
    simp only [len_eq] at hl
    rw [if_pos ⟨by omega, by omega, by rw [hl]; omega⟩, sub_fill (by omega), h4]
    rfl
  refine fin _ (fun i j xs hij hj hl hg => ?_) (fun i xs hi hl => ?_)
  · simp only [cond_eq, ilt_iff, inb_iff, len_eq, get_nat, hl]
    rw [if_pos (by omega), if_pos ⟨by omega, by omega⟩, hg, at_bad, bind_some, wrap_succ (by omega), wrap_succ (by omega)]
    by_cases q : RightA (x.getD j dA)
    · rw [if_pos (show P.not (!decide (RightA (x.getD j dA))) = true by simp only [P.not, decide_eq_true q]; rfl), if_pos ⟨by omega, by omega⟩, if_pos (show good (x.getD j dA) = true from decide_eq_true q)]
      rfl
    · rw [if_neg (show ¬ P.not (!decide (RightA (x.getD j dA))) = true by simp only [P.not, decide_eq_false q]; decide), if_neg (show ¬ good (x.getD j dA) = true by unfold good; rw [decide_eq_false q]; decide)]
  · simp only [cond_eq, ilt_iff, len_eq, hl]
    rw [if_neg (by omega)]

theorem del_spec (x : List At) (hx : x.length < 9223372036854775808) : delT K x = rest (x.filter good) := by
  have happ : P.app [] x = x := rfl
  unfold delT
  rw [happ]
  have key : ∀ (d i k : Nat) (f : Int → Option (Int ⊕ (Unit ⊕ List At))), i + d = x.length → d < k → (∀ a, a ∈ x.take i → good a = true) →
      (∀ j : Nat, j < x.length → f (j : Int) = if good (x.getD j dA) = true then some (.inl ((j + 1 : Nat) : Int)) else P.map (fun r => Sum.inr (Sum.inr r)) (shiftT K (j : Int) x)) → f (x.length : Int) = some (.inr (.inl ())) →
      P.bind (P.iter k f (i : Int)) (P.either (fun (z : Unit) => P.bind (sortF x) fun ys => compactT K ys) fun r => some r) = rest (x.filter good) := by
    intro d
    induction d with
    | zero =>
      intro i k f hi hk hg hs he
      obtain rfl : i = x.length := by omega
      rw [iter_done (by omega) he, bind_some, either_inl]
      rw [List.take_length] at hg
      rw [List.filter_eq_self.2 hg]
      rfl
    | succ d ih =>
      intro i k f hi hk hg hs he
      have h := hs i (by omega)
      by_cases q : good (x.getD i dA) = true
      · rw [if_pos q] at h
        rw [iter_step (by omega) h]
        refine ih (i + 1) (k - 1) f (by omega) (by omega) (fun a ha => ?_) hs he
        rw [take_getD (by omega), List.mem_append, List.mem_singleton] at ha
        rcases ha with ha | ha
        · exact hg a ha
        · rw [ha]; exact q
      · rw [if_neg q, shift_spec x hx i (by omega)] at h
        have e : x.take i ++ (x.drop (i + 1)).filter good = x.filter good := by
          conv => rhs; rw [← List.take_append_drop i x, List.filter_append, List.filter_eq_self.2 hg, drop_getD (l := x) (j := i) (by omega), List.filter_cons_of_neg q]
        rw [e] at h
        cases hr : rest (x.filter good) with
        | none =>
          rw [hr] at h
          obtain ⟨m, rfl⟩ : ∃ m, k = m + 1 := ⟨k - 1, by omega⟩
          rw [iter_succ, h]
          rfl
        | some r =>
          rw [hr] at h
          rw [iter_done (by omega) h, bind_some, either_inr]
  rw [show P.ieq ((-1 : Int)) ((-1 : Int)) = true from by decide]
  simp only [cond_true]
  refine key x.length 0 K _ (by omega) (by unfold K; omega) (by simp) (fun j hj => ?_) ?_
  · simp only [cond_eq, ilt_iff, inb_iff, len_eq, get_nat, ieq_iff]
    rw [if_pos (by omega), if_pos ⟨by omega, by omega⟩, at_bad, bind_some, wrap_succ (by omega), if_neg (show ¬ (j : Int) = -1 by omega)]
    by_cases q : RightA (x.getD j dA)
    · rw [if_neg (by rw [decide_eq_true q]; decide), if_pos (show good (x.getD j dA) = true from decide_eq_true q)]
    · rw [if_pos (by rw [decide_eq_false q]; rfl), if_neg (show ¬ good (x.getD j dA) = true by unfold good; rw [decide_eq_false q]; decide)]
  · simp only [cond_eq, ilt_iff, len_eq]
    rw [if_neg (by omega)]
end Go.PL
end
section
/- atoms.Norm computes norm: the last part. -/
open Go Go.PG Go.PL
set_option linter.unusedVariables false
namespace Go.PL
abbrev Sorted (ys : List At) : Prop := ys.Pairwise fun a b => ¬ ltA b a
theorem sorted_at {ys : List At} (h : Sorted ys) {i j : Nat} (hij : i ≤ j) (hj : j < ys.length) : ¬ ltA (ys.getD j dA) (ys.getD i dA) := by
  rcases Nat.lt_or_eq_of_le hij with q | q
  · have := List.pairwise_iff_getElem.1 h i j (by omega) hj q
    simpa [List.getD_eq_getElem?_getD, hj, show i < ys.length by omega] using this
  · subst q; exact ltA_irrefl _
theorem mem_take_getD {ys : List At} {m : Nat} {z : At} (h : z ∈ ys.take m) : ∃ i, i < m ∧ i < ys.length ∧ z = ys.getD i dA := by
  obtain ⟨i, hi, rfl⟩ := List.getElem_of_mem h
  rw [List.length_take] at hi
  exact ⟨i, by omega, by omega, by rw [List.getElem_take]; simp [List.getD_eq_getElem?_getD, show i < ys.length by omega]⟩
theorem getD_mem_take {ys : List At} {i m : Nat} (h : i < m) (hi : i < ys.length) : ys.getD i dA ∈ ys.take m := by
  have : (ys.take m)[i]? = some (ys.getD i dA) := by rw [List.getElem?_take, if_pos h]; simp [List.getD_eq_getElem?_getD, hi]
  exact List.mem_of_getElem? this

theorem iter_dd {ρ : Type} {f : Int × Int × List At → Option ((Int × Int × List At) ⊕ ((Int × List At) ⊕ ρ))} (ys : List At) (hsrt : Sorted ys) (j0 : Nat) (hj0 : 0 < j0) (hjn : j0 < ys.length)
    (hs : ∀ (i k2 : Nat) (xs : List At), 0 < k2 → i < j0 + k2 → j0 + k2 < ys.length → xs.length = ys.length → xs.getD (j0 + k2) dA = ys.getD (j0 + k2) dA → xs.getD (j0 + (k2 - 1)) dA = ys.getD (j0 + (k2 - 1)) dA →
      f ((i : Int), (k2 : Int), xs) = some (.inl (if ys.getD (j0 + k2) dA = ys.getD (j0 + (k2 - 1)) dA then ((i : Int), ((k2 + 1 : Nat) : Int), xs) else (((i + 1 : Nat) : Int), ((k2 + 1 : Nat) : Int), xs.set i (ys.getD (j0 + k2) dA)))))
    (he : ∀ (i k2 : Nat) (xs : List At), j0 + k2 = ys.length → i ≤ ys.length → xs.length = ys.length → f ((i : Int), (k2 : Int), xs) = some (.inr (.inl ((i : Int), xs)))) :
    ∀ (d i k2 k : Nat) (xs : List At), j0 + k2 + d = ys.length → d < k → 0 < k2 → i < j0 + k2 → xs.length = ys.length → (∀ m, j0 + k2 ≤ m + 1 → xs.getD m dA = ys.getD m dA) → Rises (xs.take i) → (∀ z, z ∈ xs.take i ↔ z ∈ ys.take (j0 + k2)) →
      ∃ (i' : Nat) (xs' : List At), P.iter k f ((i : Int), (k2 : Int), xs) = some (.inl ((i' : Int), xs')) ∧ i' ≤ ys.length ∧ xs'.length = ys.length ∧ Rises (xs'.take i') ∧ ∀ z, z ∈ xs'.take i' ↔ z ∈ ys := by
  intro d
  induction d with
  | zero =>
    intro i k2 k xs hd hk h2 hi hl hm hr hz
    refine ⟨i, xs, iter_done (by omega) (he i k2 xs (by omega) (by omega) hl), by omega, hl, hr, fun z => ?_⟩
    rw [hz, List.take_of_length_le (by omega)]
  | succ d ih =>
    intro i k2 k xs hd hk h2 hi hl hm hr hz
    have hstep := hs i k2 xs h2 hi (by omega) hl (hm _ (by omega)) (hm _ (by omega))
    have hprev : ys.getD (j0 + (k2 - 1)) dA ∈ ys.take (j0 + k2) := getD_mem_take (by omega) (by omega)
    by_cases q : ys.getD (j0 + k2) dA = ys.getD (j0 + (k2 - 1)) dA
    · rw [if_pos q] at hstep
      obtain ⟨i', xs', r1, r2, r3, r4, r5⟩ := ih i (k2 + 1) (k - 1) xs (by omega) (by omega) (by omega) (by omega) hl (fun m hm' => hm m (by omega)) hr (fun z => by
        rw [hz, show j0 + (k2 + 1) = j0 + k2 + 1 by omega, take_getD (by omega), List.mem_append, List.mem_singleton]
        exact ⟨.inl, fun h => h.elim id fun h => by rw [h, q]; exact hprev⟩)
      exact ⟨i', xs', by rw [iter_step (by omega) hstep]; exact r1, r2, r3, r4, r5⟩
    · rw [if_neg q] at hstep
      have htake : (xs.set i (ys.getD (j0 + k2) dA)).take (i + 1) = xs.take i ++ [ys.getD (j0 + k2) dA] := take_set_succ (by omega) _
      obtain ⟨i', xs', r1, r2, r3, r4, r5⟩ := ih (i + 1) (k2 + 1) (k - 1) (xs.set i (ys.getD (j0 + k2) dA)) (by omega) (by omega) (by omega) (by omega) (by simpa using hl) (fun m hm' => by rw [getD_set_ne (by omega)]; exact hm m (by omega)) (by
        rw [htake]
        refine List.pairwise_append.2 ⟨hr, List.pairwise_singleton _ _, fun a ha b hb => ?_⟩
        rw [List.mem_singleton] at hb
        subst hb
        obtain ⟨m, m1, m2, rfl⟩ := mem_take_getD ((hz a).1 ha)
        have s1 := sorted_at hsrt (i := m) (j := j0 + (k2 - 1)) (by omega) (by omega)
        have s2 := sorted_at hsrt (i := j0 + (k2 - 1)) (j := j0 + k2) (by omega) (by omega)
        rcases ltA_tri (ys.getD (j0 + (k2 - 1)) dA) (ys.getD (j0 + k2) dA) with t | t | t
        · rcases ltA_tri (ys.getD m dA) (ys.getD (j0 + (k2 - 1)) dA) with u | u | u
          · exact ltA_trans u t
          · rw [u]; exact t
          · exact absurd u s1
        · exact absurd t.symm q
        · exact absurd t s2) (fun z => by
        rw [htake, show j0 + (k2 + 1) = j0 + k2 + 1 by omega, take_getD (by omega), List.mem_append, List.mem_append, hz])
      exact ⟨i', xs', by rw [iter_step (by omega) hstep]; exact r1, r2, r3, r4, r5⟩

theorem eqA_iff {a b : At} : P.and (P.ieq a.1 b.1) (P.ieq a.2 b.2) = true ↔ a = b := by
  rw [and_iff, ieq_iff, ieq_iff]
  exact ⟨fun h => Prod.ext h.1 h.2, fun h => by rw [h]; exact ⟨rfl, rfl⟩⟩

theorem rises_take {ys : List At} (hs : Sorted ys) {j : Nat} (h : Rises (ys.take j)) (hj : j < ys.length) (h0 : 0 < j) (hne : ys.getD j dA ≠ ys.getD (j - 1) dA) : Rises (ys.take (j + 1)) := by
  rw [take_getD hj]
  refine List.pairwise_append.2 ⟨h, List.pairwise_singleton _ _, fun a ha b hb => ?_⟩
  rw [List.mem_singleton] at hb
  subst hb
  obtain ⟨m, m1, m2, rfl⟩ := mem_take_getD ha
  have s1 := sorted_at hs (i := m) (j := j - 1) (by omega) (by omega)
  have s2 := sorted_at hs (i := j - 1) (j := j) (by omega) (by omega)
  rcases ltA_tri (ys.getD (j - 1) dA) (ys.getD j dA) with t | t | t
  · rcases ltA_tri (ys.getD m dA) (ys.getD (j - 1) dA) with u | u | u
    · exact ltA_trans u t
    · rw [u]; exact t
    · exact absurd u s1
  · exact absurd t.symm hne
  · exact absurd t s2

theorem compact_spec (ys : List At) (hl : ys.length < 9223372036854775808) (hsrt : Sorted ys) : ∃ r, compactT K ys = some r ∧ Rises r ∧ ∀ z, z ∈ r ↔ z ∈ ys := by
  unfold compactT
  by_cases h2 : ys.length < 2
  · refine ⟨ys, ?_, ?_, fun z => Iff.rfl⟩
    · rw [show P.ilt (P.len ys) ((2 : Int)) = true from ilt_iff.2 (by rw [len_eq]; omega)]; rfl
    · match ys, h2 with
      | [], _ => exact List.Pairwise.nil
      | [a], _ => exact List.pairwise_singleton _ _
  rw [show P.ilt (P.len ys) ((2 : Int)) = false from by rw [Bool.eq_false_iff, Ne, ilt_iff, len_eq]; omega]
  rw [cond_false]
  have key : ∀ (d j k : Nat) (f : Int × List At → Option ((Int × List At) ⊕ (List At ⊕ List At))), j + d = ys.length → d < k → 0 < j → Rises (ys.take j) →
      (∀ j : Nat, 0 < j → j < ys.length → ys.getD j dA ≠ ys.getD (j - 1) dA → f ((j : Int), ys) = some (.inl (((j + 1 : Nat) : Int), ys))) →
      (∀ j : Nat, 0 < j → j < ys.length → ys.getD j dA = ys.getD (j - 1) dA → Rises (ys.take j) → ∃ r, f ((j : Int), ys) = some (.inr (.inr r)) ∧ Rises r ∧ ∀ z, z ∈ r ↔ z ∈ ys) →
      f ((ys.length : Int), ys) = some (.inr (.inl ys)) →
      ∃ r, P.bind (P.iter k f ((j : Int), ys)) (P.either (fun (z : List At) => some z) fun r => some r) = some r ∧ Rises r ∧ ∀ z, z ∈ r ↔ z ∈ ys := by
    intro d
    induction d with
    | zero =>
      intro j k f hj hk h0 hr hs1 hs2 he
      obtain rfl : j = ys.length := by omega
      rw [List.take_length] at hr
      exact ⟨ys, by rw [iter_done (by omega) he]; rfl, hr, fun z => Iff.rfl⟩
    | succ d ih =>
      intro j k f hj hk h0 hr hs1 hs2 he
      by_cases q : ys.getD j dA = ys.getD (j - 1) dA
      · obtain ⟨r, r1, r2, r3⟩ := hs2 j h0 (by omega) q hr
        exact ⟨r, by rw [iter_done (by omega) r1]; rfl, r2, r3⟩
      · have h := hs1 j h0 (by omega) q
        obtain ⟨r, r1, r2, r3⟩ := ih (j + 1) (k - 1) f (by omega) (by omega) (by omega) (rises_take hsrt hr (by omega) h0 q) hs1 hs2 he
        exact ⟨r, by rw [iter_step (by omega) h]; exact r1, r2, r3⟩
  refine key (ys.length - 1) 1 K _ (by omega) (by unfold K; omega) (by omega) ?_ (fun j h0 hj hne => ?_) (fun j h0 hj heq hr => ?_) ?_
  · rw [show (1 : Nat) = 0 + 1 from rfl, take_getD (by omega)]; simp
  · simp only [cond_eq, ilt_iff, inb_iff, len_eq]
    rw [if_pos (by omega), if_pos ⟨by omega, by omega⟩, wrap_pred h0 (by omega), if_pos ⟨by omega, by omega⟩]
    simp only [get_nat]
    rw [if_neg (fun q => hne (eqA_iff.1 q)), wrap_succ (by omega)]
  · have inner : ∀ f : Int × Int × List At → Option ((Int × Int × List At) ⊕ ((Int × List At) ⊕ ((Int × List At) ⊕ (List At ⊕ List At)))),
        (∀ (i k2 : Nat) (xs : List At), 0 < k2 → i < j + k2 → j + k2 < ys.length → xs.length = ys.length → xs.getD (j + k2) dA = ys.getD (j + k2) dA → xs.getD (j + (k2 - 1)) dA = ys.getD (j + (k2 - 1)) dA →
          f ((i : Int), (k2 : Int), xs) = some (.inl (if ys.getD (j + k2) dA = ys.getD (j + (k2 - 1)) dA then ((i : Int), ((k2 + 1 : Nat) : Int), xs) else (((i + 1 : Nat) : Int), ((k2 + 1 : Nat) : Int), xs.set i (ys.getD (j + k2) dA))))) →
        (∀ (i k2 : Nat) (xs : List At), j + k2 = ys.length → i ≤ ys.length → xs.length = ys.length → f ((i : Int), (k2 : Int), xs) = some (.inr (.inl ((i : Int), xs)))) →
        ∃ r, P.bind (P.iter K f ((j : Int), (1 : Int), ys)) (P.either (fun (z : Int × List (Int × Int)) => P.cond (P.cut z.fst (P.len z.snd) (P.len z.snd)) (P.cond (P.cut ((0 : Int)) z.fst (P.len (P.fill z.snd z.fst (P.sub (P.len z.snd) z.fst) ((0 : Int), (0 : Int))))) (some (Sum.inr (Sum.inr (P.sub_ (P.fill z.snd z.fst (P.sub (P.len z.snd) z.fst) ((0 : Int), (0 : Int))) ((0 : Int)) z.fst)))) none) none) fun (r : Int × List (Int × Int) ⊕ List (Int × Int) ⊕ List (Int × Int)) => some r) = some (.inr (.inr r)) ∧ Rises r ∧ ∀ z, z ∈ r ↔ z ∈ ys := by
      intro f hs he
      obtain ⟨i', xs', r1, r2, r3, r4, r5⟩ := iter_dd ys hsrt j h0 hj hs he (ys.length - (j + 1)) j 1 K ys (by omega) (by unfold K; omega) (by omega) (by omega) rfl (fun _ _ => rfl) hr (fun z => by
        rw [take_getD (by omega), List.mem_append, List.mem_singleton]
        exact ⟨.inl, fun h => h.elim id fun h => by rw [h, heq]; exact getD_mem_take (by omega) (by omega)⟩)
      refine ⟨xs'.take i', ?_, r4, r5⟩
      rw [show ((1 : Nat) : Int) = (1 : Int) from rfl] at r1
      rw [r1, bind_some, either_inl]
      simp only [cond_eq, cut_iff, len_eq]
      rw [if_pos ⟨by omega, by omega, by omega⟩]
      have hlf := len_fill (l := xs') (i := i') (by omega) ((0 : Int), (0 : Int))
      simp only [len_eq] at hlf
      rw [if_pos ⟨by omega, by omega, by rw [hlf]; omega⟩, sub_fill (by omega)]
    dsimp only
    rw [show P.ilt (j : Int) (P.len ys) = true from ilt_iff.2 (by rw [len_eq]; omega), cond_true, show P.inb (j : Int) (P.len ys) = true from inb_iff.2 (by rw [len_eq]; omega), cond_true, wrap_pred h0 (by omega),
      show P.inb ((j - 1 : Nat) : Int) (P.len ys) = true from inb_iff.2 (by rw [len_eq]; omega), cond_true, get_nat, get_nat, show P.and (P.ieq (ys.getD j dA).1 (ys.getD (j - 1) dA).1) (P.ieq (ys.getD j dA).2 (ys.getD (j - 1) dA).2) = true from eqA_iff.2 heq, cond_true,
      show P.cut (j : Int) (P.len ys) (P.len ys) = true from cut_iff.2 (by rw [len_eq]; omega), cond_true]
    refine inner _ (fun i k2 xs hk0 hi hk hlx hg1 hg2 => ?_) (fun i k2 xs hk hi hlx => ?_)
    · have e1 : P.add (j : Int) (k2 : Int) = ((j + k2 : Nat) : Int) := by simp [P.add]
      have e2 : P.add (j : Int) ((k2 - 1 : Nat) : Int) = ((j + (k2 - 1) : Nat) : Int) := by simp [P.add]
      have e3 : P.sub (P.len ys) (j : Int) = ((ys.length - j : Nat) : Int) := by simp only [P.sub, len_eq]; omega
      dsimp only
      rw [e3, show P.ilt (k2 : Int) ((ys.length - j : Nat) : Int) = true from ilt_iff.2 (by omega), cond_true, show P.inb (k2 : Int) ((ys.length - j : Nat) : Int) = true from inb_iff.2 (by omega), cond_true, wrap_pred hk0 (by omega),
        show P.inb ((k2 - 1 : Nat) : Int) ((ys.length - j : Nat) : Int) = true from inb_iff.2 (by omega), cond_true, e1, e2, get_nat, get_nat, hg1, hg2, wrap_succ (by omega), wrap_succ (by omega)]
      by_cases q : ys.getD (j + k2) dA = ys.getD (j + (k2 - 1)) dA
      · rw [if_pos q, show P.and (P.ieq (ys.getD (j + k2) dA).1 (ys.getD (j + (k2 - 1)) dA).1) (P.ieq (ys.getD (j + k2) dA).2 (ys.getD (j + (k2 - 1)) dA).2) = true from eqA_iff.2 q]
        rfl
      · rw [if_neg q, show P.and (P.ieq (ys.getD (j + k2) dA).1 (ys.getD (j + (k2 - 1)) dA).1) (P.ieq (ys.getD (j + k2) dA).2 (ys.getD (j + (k2 - 1)) dA).2) = false from by rw [Bool.eq_false_iff]; exact fun z => q (eqA_iff.1 z),
          show P.not false = true from rfl, cond_true, show P.inb (i : Int) (P.len xs) = true from inb_iff.2 (by rw [len_eq]; omega), cond_true]
        rfl
    · have e3 : P.sub (P.len ys) (j : Int) = ((ys.length - j : Nat) : Int) := by simp only [P.sub, len_eq]; omega
      dsimp only
      rw [e3, show P.ilt (k2 : Int) ((ys.length - j : Nat) : Int) = false from by rw [Bool.eq_false_iff, Ne, ilt_iff]; omega]
      rfl
  · simp only [cond_eq, ilt_iff, len_eq]
    rw [if_neg (by omega)]

theorem at_norm (x : List At) (hx : x.length < 9223372036854775808) (hr : x.length * 16 ≤ 35184372088832) : atoms_Norm K x = some (norm x) := by
  have hd : delT K x = some (norm x) := by
    rw [del_spec x hx]
    unfold rest
    have hlen := List.length_filter_le good x
    obtain ⟨s, s1, s2, s3, s4⟩ := sortF_spec (x.filter good) (by omega)
    obtain ⟨r, r1, r2, r3⟩ := compact_spec s (by omega) s4
    rw [s1, bind_some, r1]
    congr 1
    refine (norm_eq ⟨r2, fun z hz => ?_⟩ fun z hz => ?_).symm
    · have := (s3 z).1 ((r3 z).1 hz)
      exact of_decide_eq_true (List.mem_filter.1 this).2
    · rw [r3, s3, List.mem_filter]
      exact ⟨fun h => h.1, fun h => ⟨h, decide_eq_true hz⟩⟩
  rw [norm_form]
  have hroom : P.room (P.add (P.len (P.nil (Int × Int))) (P.len x)) 16 = true := by
    rw [show P.len (P.nil (Int × Int)) = ((0 : Nat) : Int) from rfl, len_eq, room_nat]
    omega
  rw [hroom, cond_true, hd]
  by_cases h0 : P.ilt ((0 : Int)) (P.len x) = true
  · rw [h0]; rfl
  · rw [Bool.eq_false_iff.2 h0, cond_false]
    have : x = [] := by
      rw [ilt_iff, len_eq] at h0
      exact List.length_eq_zero_iff.1 (by omega)
    subst this
    rw [nil_spec fun _ _ => trivial, norm_nil]
    simp [P.amb]
end Go.PL
end
section
/- What the functions on lists of atoms compute. -/
open Go Go.PG Go.PL
set_option linter.unusedVariables false
namespace Go.PL
/-- Few. -/
abbrev Few {α : Type} (l : List α) : Prop := l.length ≤ 1000000

theorem nodup_rises {l : List At} (h : Rises l) : l.Nodup := h.imp fun h e => by subst e; exact ltA_irrefl _ h
theorem insA_length (x : At) : ∀ l : List At, (insA x l).length = l.length + 1
  | [] => rfl
  | y :: l => by simp only [insA]; split <;> simp [insA_length x l]
theorem addA_length (l : List At) (x : At) : (addA l x).length ≤ l.length + 1 := by
  unfold addA; split
  · rw [insA_length]; exact Nat.le_refl _
  · omega
theorem fold_length : ∀ (l acc : List At), (l.foldl addA acc).length ≤ acc.length + l.length
  | [], acc => by simp
  | x :: l, acc => by
    have h1 := fold_length l (addA acc x)
    have h2 := addA_length acc x
    simp only [List.foldl_cons, List.length_cons]
    omega
theorem norm_length (l : List At) : (norm l).length ≤ l.length := by
  have := fold_length l []
  simpa [norm] using this

theorem at_norm' (x : List At) (hx : x.length ≤ 2000000) : atoms_Norm K x = some (norm x) := at_norm x (by omega) (by omega)
theorem at_clone (k : Nat) (x : List At) (hx : x.length ≤ 2000000) : slices_Clone_api_Atom_api_Atom k x = some x := by
  unfold slices_Clone_api_Atom_api_Atom
  have hroom : P.room (P.add (P.len (P.nil (Int × Int))) (P.len x)) 16 = true := by
    rw [show P.len (P.nil (Int × Int)) = ((0 : Nat) : Int) from rfl, len_eq, room_nat]
    omega
  try dsimp only
  rw [hroom, cond_true, show P.app [] x = x from rfl]
  by_cases h0 : P.ilt ((0 : Int)) (P.len x) = true
  · rw [h0]; rfl
  · rw [Bool.eq_false_iff.2 h0, cond_false]
    have : x = [] := by
      rw [ilt_iff, len_eq] at h0
      exact List.length_eq_zero_iff.1 (by omega)
    subst this
    simp [P.amb]

/-- Are two lists the same? -/
theorem eq_iff_getD {a b : List At} (h : a.length = b.length) : (∀ i, i < a.length → a.getD i dA = b.getD i dA) ↔ a = b := by
  constructor
  · intro q
    refine List.ext_getElem h fun i h1 h2 => ?_
    have := q i h1
    simpa [List.getD_eq_getElem?_getD, h1, h2] using this
  · rintro rfl i _; rfl
theorem at_equal (a b : List At) (ha : a.length ≤ 2000000) : slices_Equal_api_Atom_api_Atom K (a, b) = some (decide (a = b)) := by
  unfold slices_Equal_api_Atom_api_Atom
  try dsimp only
  by_cases hl : a.length = b.length
  · rw [show P.ieq (P.len a) (P.len b) = true from ieq_iff.2 (by simp [len_eq, hl]), show P.not true = false from rfl, cond_false]
    rw [iter_all (n := a.length) (e := .inl ()) (r := .inr false) (fun i => a.getD i dA = b.getD i dA) K ?_ ?_ (by unfold K; omega)]
    · rw [bind_some]
      by_cases h : ∀ i, i < a.length → a.getD i dA = b.getD i dA
      · rw [if_pos h, either_inl, decide_eq_true ((eq_iff_getD hl).1 h)]
      · rw [if_neg h, either_inr, decide_eq_false fun q => h ((eq_iff_getD hl).2 q)]
    · intro i hi
      try dsimp only
      rw [show P.ilt (i : Int) (P.len a) = true from ilt_iff.2 (by rw [len_eq]; omega), cond_true, show P.inb (i : Int) (P.len a) = true from inb_iff.2 (by rw [len_eq]; omega), cond_true, show P.inb (i : Int) (P.len b) = true from inb_iff.2 (by rw [len_eq]; omega), cond_true, get_nat, get_nat, wrap_succ (by omega)]
      by_cases q : a.getD i dA = b.getD i dA
      · rw [show P.and (P.ieq (a.getD i dA).1 (b.getD i dA).1) (P.ieq (a.getD i dA).2 (b.getD i dA).2) = true from eqA_iff.2 q, if_pos q]; rfl
      · rw [show P.and (P.ieq (a.getD i dA).1 (b.getD i dA).1) (P.ieq (a.getD i dA).2 (b.getD i dA).2) = false from by rw [Bool.eq_false_iff]; exact fun z => q (eqA_iff.1 z), if_neg q]; rfl
    · try dsimp only
      rw [show P.ilt (a.length : Int) (P.len a) = false from by rw [Bool.eq_false_iff, Ne, ilt_iff, len_eq]; omega]; rfl
  · rw [show P.ieq (P.len a) (P.len b) = false from by rw [Bool.eq_false_iff, Ne, ieq_iff, len_eq, len_eq]; omega, show P.not false = true from rfl, cond_true, decide_eq_false fun q => hl (by rw [q])]
theorem ref_same (a b : List At) (ha : a.length ≤ 2000000) : ref06_Same K (a, b) = some (decide (a = b)) := at_equal a b ha

/-- Is an atom in a list? -/
theorem mem_iff_getD {l : List At} {x : At} : x ∈ l ↔ ∃ i, i < l.length ∧ l.getD i dA = x := by
  rw [List.mem_iff_getElem]
  constructor
  · rintro ⟨i, h, rfl⟩; exact ⟨i, h, by simp [List.getD_eq_getElem?_getD, h]⟩
  · rintro ⟨i, h, rfl⟩; exact ⟨i, h, by simp [List.getD_eq_getElem?_getD, h]⟩
theorem ref_has (l : List At) (x : At) (hl : l.length ≤ 2000000) : ref06_Has K (l, x) = some (decide (x ∈ l)) := by
  unfold ref06_Has
  try dsimp only
  rw [iter_all (n := l.length) (e := .inl ()) (r := .inr true) (fun i => l.getD i dA ≠ x) K ?_ ?_ (by unfold K; omega)]
  · rw [bind_some]
    by_cases h : ∀ i, i < l.length → l.getD i dA ≠ x
    · rw [if_pos h, either_inl, decide_eq_false]
      intro q
      obtain ⟨i, h1, h2⟩ := mem_iff_getD.1 q
      exact h i h1 h2
    · rw [if_neg h, either_inr, decide_eq_true]
      refine mem_iff_getD.2 (Classical.byContradiction fun q => h fun i hi e => q ⟨i, hi, e⟩)
  · intro i hi
    try dsimp only
    rw [show P.ilt (i : Int) (P.len l) = true from ilt_iff.2 (by rw [len_eq]; omega), cond_true, show P.inb (i : Int) (P.len l) = true from inb_iff.2 (by rw [len_eq]; omega), cond_true, get_nat, wrap_succ (by omega)]
    by_cases q : l.getD i dA = x
    · rw [show P.and (P.ieq (l.getD i dA).1 x.1) (P.ieq (l.getD i dA).2 x.2) = true from eqA_iff.2 q, if_neg (fun z => z q)]; rfl
    · rw [show P.and (P.ieq (l.getD i dA).1 x.1) (P.ieq (l.getD i dA).2 x.2) = false from by rw [Bool.eq_false_iff]; exact fun z => q (eqA_iff.1 z), if_pos q]; rfl
  · try dsimp only
    rw [show P.ilt (l.length : Int) (P.len l) = false from by rw [Bool.eq_false_iff, Ne, ilt_iff, len_eq]; omega]; rfl
theorem at_has (l : List At) (x : At) (hl : l.length ≤ 2000000) : atoms_Has K (l, x) = some (decide (x ∈ l)) := by
  unfold atoms_Has slices_Contains_api_Atom_api_Atom slices_Index_api_Atom_api_Atom
  try dsimp only
  rw [iter_find0 (n := l.length) (e := .inl ()) (fun i => if l.getD i dA = x then some (.inr (i : Int)) else none) K ?_ ?_ (by unfold K; omega)]
  · rw [bind_some]
    cases hq : (List.range l.length).findSome? (fun i => if l.getD i dA = x then some (Sum.inr (i : Int) : Unit ⊕ Int) else none) with
    | none =>
      rw [List.findSome?_eq_none_iff] at hq
      simp only [Option.getD_none, either_inl, bind_some]
      have hn : x ∉ l := fun q => by
        obtain ⟨i, h1, h2⟩ := mem_iff_getD.1 q
        have := hq i (List.mem_range.2 h1)
        rw [if_pos h2] at this
        cases this
      rw [decide_eq_false hn]
      rfl
    | some r =>
      obtain ⟨i, h1, h2⟩ := List.exists_of_findSome?_eq_some hq
      by_cases q : l.getD i dA = x
      · rw [if_pos q] at h2
        injection h2 with h2
        subst h2
        simp only [Option.getD_some, either_inr, bind_some]
        rw [decide_eq_true (mem_iff_getD.2 ⟨i, List.mem_range.1 h1, q⟩), show P.ile ((0 : Int)) (i : Int) = true from ile_iff.2 (by omega)]
      · rw [if_neg q] at h2; cases h2
  · intro i hi
    try dsimp only
    rw [show P.ilt (i : Int) (P.len l) = true from ilt_iff.2 (by rw [len_eq]; omega), cond_true, show P.inb (i : Int) (P.len l) = true from inb_iff.2 (by rw [len_eq]; omega), cond_true, get_nat, wrap_succ (by omega)]
    by_cases q : l.getD i dA = x
    · rw [show P.and (P.ieq x.1 (l.getD i dA).1) (P.ieq x.2 (l.getD i dA).2) = true from eqA_iff.2 q.symm, if_pos q]; rfl
    · rw [show P.and (P.ieq x.1 (l.getD i dA).1) (P.ieq x.2 (l.getD i dA).2) = false from by rw [Bool.eq_false_iff]; exact fun z => q (eqA_iff.1 z).symm, if_neg q]; rfl
  · try dsimp only
    rw [show P.ilt (l.length : Int) (P.len l) = false from by rw [Bool.eq_false_iff, Ne, ilt_iff, len_eq]; omega]; rfl

/-- Is each atom of a list in another one? -/
def Within (a b : List At) : Prop := ∀ z, z ∈ a → z ∈ b
instance (a b : List At) : Decidable (Within a b) := by unfold Within; exact inferInstance
theorem within_iff {a b : List At} : (∀ i, i < a.length → a.getD i dA ∈ b) ↔ Within a b := by
  constructor
  · intro h z hz
    obtain ⟨i, h1, rfl⟩ := mem_iff_getD.1 hz
    exact h i h1
  · intro h i hi
    exact h _ (mem_iff_getD.2 ⟨i, hi, rfl⟩)
theorem within_gen (H : Nat → List At × At → Option Bool) (a b : List At) (ha : a.length ≤ 2000000) (hh : ∀ x, H K (b, x) = some (decide (x ∈ b))) :
    P.bind (P.iter K (fun (y : Int) => P.cond (P.ilt y (P.len a)) (P.cond (P.inb y (P.len a)) (P.bind (H K (b, P.get a y ((0 : Int), (0 : Int)))) fun (r : Bool) => P.cond (P.not r) (some (Sum.inr (Sum.inr false))) (some (Sum.inl (P.wrap IntKind.i64 (P.add y ((1 : Int))))))) none) (some (Sum.inr (Sum.inl PUnit.unit)))) ((0 : Int))) (P.either (fun (z : PUnit) => some true) fun (r : Bool) => some r) = some (decide (Within a b)) := by
  rw [iter_all (n := a.length) (e := .inl ()) (r := .inr false) (fun i => a.getD i dA ∈ b) K ?_ ?_ (by unfold K; omega)]
  · rw [bind_some]
    by_cases h : ∀ i, i < a.length → a.getD i dA ∈ b
    · rw [if_pos h, either_inl, decide_eq_true (within_iff.1 h)]
    · rw [if_neg h, either_inr, decide_eq_false fun q => h (within_iff.2 q)]
  · intro i hi
    try dsimp only
    rw [show P.ilt (i : Int) (P.len a) = true from ilt_iff.2 (by rw [len_eq]; omega), cond_true, show P.inb (i : Int) (P.len a) = true from inb_iff.2 (by rw [len_eq]; omega), cond_true, get_nat, hh, bind_some, wrap_succ (by omega)]
    by_cases q : a.getD i dA ∈ b
    · rw [if_pos q, decide_eq_true q]; rfl
    · rw [if_neg q, decide_eq_false q]; rfl
  · try dsimp only
    rw [show P.ilt (a.length : Int) (P.len a) = false from by rw [Bool.eq_false_iff, Ne, ilt_iff, len_eq]; omega]; rfl
theorem at_within (a b : List At) (ha : a.length ≤ 2000000) (hb : b.length ≤ 2000000) : atoms_Within K (a, b) = some (decide (Within a b)) := within_gen atoms_Has a b ha fun x => at_has b x hb
theorem ref_within (a b : List At) (ha : a.length ≤ 2000000) (hb : b.length ≤ 2000000) : ref06_Within K (a, b) = some (decide (Within a b)) := within_gen ref06_Has a b ha fun x => ref_has b x hb

theorem at_may (l : List At) (hl : l.length ≤ 2000000) : atoms_May K l = some (decide (l = norm l)) := by
  unfold atoms_May
  rw [at_norm' l hl, bind_some, at_equal l _ hl, bind_some]
end Go.PL
end

/- Lemmas for the claim. -/
import Derived.Test.YtoicfdfjjnfgaaaProg
import Derived.KernelRfl
import Derived.Test.YtoicfdfjjnfgaaaG4
import Derived.Lib.Strings
import Derived.Lib.Slices
import Derived.Lib.Walk
import Derived.Lib.Bytealg
import Derived.Test.YtoicfdfjjnfgaaaG1
import Derived.Laws.Strings
set_option linter.all false
section
open Go Go.PG Go.Proofs
set_option linter.all false
set_option maxRecDepth 1000000
set_option maxHeartbeats 4000000
abbrev T_api_Val : Ty := .st (.pair (.int .i64) (.int .i64))
abbrev T_api_Prop : Ty := .st (.pair .str T_api_Val)
abbrev T_api_Obj : Ty := .st (.pair (.slice T_api_Prop) T_api_Val)
abbrev T_api_Frame : Ty := .st (.pair (.slice T_api_Prop) (.pair (.slice (.int .i64)) (.slice (.slice (.int .i64)))))
abbrev T_api_Atom : Ty := .st (.pair (.int .i64) (.int .i64))
abbrev T_api_Bind : Ty := .st (.pair .str (.slice T_api_Atom))
abbrev T_api_Field : Ty := .st (.pair .str (.pair .bool (.slice T_api_Atom)))
abbrev T_api_Shape : Ty := .st (.pair (.slice T_api_Field) (.slice T_api_Atom))
abbrev T_api_Loc : Ty := .st (.pair T_api_Atom T_api_Shape)
abbrev T_api_State : Ty := .st (.pair .bool (.pair (.slice T_api_Bind) (.slice T_api_Loc)))
abbrev T_proteanlaw21_All : Ty := .st (.pair T_api_Frame (.pair (.slice T_api_Obj) T_api_State))
abbrev T_api_Found : Ty := .st (.pair (.slice T_api_Atom) (.pair .bool (.pair .bool .bool)))
abbrev T_proteanlaw21_Put : Ty := .st (.pair .str (.pair .str (.pair T_api_Val (.slice T_api_Atom))))
noncomputable def T : List (Nat × TyRow) := [(3, ⟨(.int .i64), 0, false, false⟩), (4, ⟨.bool, 0, false, false⟩), (9, ⟨.str, 0, false, false⟩), (20, ⟨.opq, 0, false, false⟩), (28, ⟨(.slice T_api_Obj), 40, false, false⟩), (30, ⟨T_api_Val, 0, true, false⟩), (37, ⟨(.slice (.int .i64)), 8, false, false⟩), (40, ⟨(.slice T_api_Prop), 32, false, false⟩), (41, ⟨(.slice (.slice (.int .i64))), 24, false, false⟩), (43, ⟨T_api_Frame, 0, false, false⟩), (44, ⟨(.slice T_api_Bind), 40, false, false⟩), (45, ⟨(.slice T_api_Loc), 64, false, false⟩), (47, ⟨T_api_State, 0, false, false⟩), (49, ⟨T_proteanlaw21_All, 0, false, false⟩), (51, ⟨T_api_Atom, 0, true, false⟩), (52, ⟨(.slice T_api_Field), 48, false, false⟩), (53, ⟨(.slice T_api_Atom), 16, false, false⟩), (55, ⟨T_api_Shape, 0, false, false⟩), (57, ⟨T_api_Loc, 0, false, false⟩), (70, ⟨T_api_Bind, 0, false, false⟩), (72, ⟨T_api_Found, 0, false, false⟩), (78, ⟨T_proteanlaw21_Put, 0, false, false⟩), (88, ⟨(.slice .str), 16, false, false⟩), (93, ⟨T_api_Prop, 0, true, false⟩), (95, ⟨T_api_Obj, 0, false, false⟩), (132, ⟨T_api_Field, 0, false, false⟩), (137, ⟨.opq, 0, false, false⟩), (138, ⟨.opq, 0, false, false⟩), (142, ⟨.opq, 0, false, false⟩), (146, ⟨.opq, 0, false, false⟩), (208, ⟨(.int .u64), 0, false, false⟩), (210, ⟨.opq, 0, false, false⟩), (212, ⟨.opq, 0, false, false⟩), (225, ⟨.opq, 0, false, false⟩)]
theorem mixedOk : Try.prog.follows .mixedOrders = true := by kernel_rfl
theorem tabOk : tysB Try.prog T = true := by kernel_rfl
abbrev GG : World → Prop := fun _ => True
theorem f142_at : Try.prog.funcs[142]? = some Try.f142 := by kernel_rfl
theorem f142_ok : (Try.f142.name != "runtime.NumGoroutine" && Try.f142.body.isSome) = true := by kernel_rfl
theorem f168_at : Try.prog.funcs[168]? = some Try.f168 := by kernel_rfl
theorem f168_ok : (Try.f168.name != "runtime.NumGoroutine" && Try.f168.body.isSome) = true := by kernel_rfl
theorem f86_at : Try.prog.funcs[86]? = some Try.f86 := by kernel_rfl
theorem f86_ok : (Try.f86.name != "runtime.NumGoroutine" && Try.f86.body.isSome) = true := by kernel_rfl
theorem f151_at : Try.prog.funcs[151]? = some Try.f151 := by kernel_rfl
theorem f151_ok : (Try.f151.name != "runtime.NumGoroutine" && Try.f151.body.isSome) = true := by kernel_rfl
theorem f152_at : Try.prog.funcs[152]? = some Try.f152 := by kernel_rfl
theorem f152_ok : (Try.f152.name != "runtime.NumGoroutine" && Try.f152.body.isSome) = true := by kernel_rfl
theorem f101_at : Try.prog.funcs[101]? = some Try.f101 := by kernel_rfl
theorem f101_ok : (Try.f101.name != "runtime.NumGoroutine" && Try.f101.body.isSome) = true := by kernel_rfl
theorem f148_at : Try.prog.funcs[148]? = some Try.f148 := by kernel_rfl
theorem f148_ok : (Try.f148.name != "runtime.NumGoroutine" && Try.f148.body.isSome) = true := by kernel_rfl
theorem f100_at : Try.prog.funcs[100]? = some Try.f100 := by kernel_rfl
theorem f100_ok : (Try.f100.name != "runtime.NumGoroutine" && Try.f100.body.isSome) = true := by kernel_rfl
theorem f145_at : Try.prog.funcs[145]? = some Try.f145 := by kernel_rfl
theorem f145_ok : (Try.f145.name != "runtime.NumGoroutine" && Try.f145.body.isSome) = true := by kernel_rfl
theorem f95_at : Try.prog.funcs[95]? = some Try.f95 := by kernel_rfl
theorem f95_ok : (Try.f95.name != "runtime.NumGoroutine" && Try.f95.body.isSome) = true := by kernel_rfl
theorem f39_at : Try.prog.funcs[39]? = some Try.f39 := by kernel_rfl
theorem f39_ok : (Try.f39.name != "runtime.NumGoroutine" && Try.f39.body.isSome) = true := by kernel_rfl
theorem f83_at : Try.prog.funcs[83]? = some Try.f83 := by kernel_rfl
theorem f83_ok : (Try.f83.name != "runtime.NumGoroutine" && Try.f83.body.isSome) = true := by kernel_rfl
theorem f84_at : Try.prog.funcs[84]? = some Try.f84 := by kernel_rfl
theorem f84_ok : (Try.f84.name != "runtime.NumGoroutine" && Try.f84.body.isSome) = true := by kernel_rfl
theorem f26_at : Try.prog.funcs[26]? = some Try.f26 := by kernel_rfl
theorem f26_ok : (Try.f26.name != "runtime.NumGoroutine" && Try.f26.body.isSome) = true := by kernel_rfl
theorem f30_at : Try.prog.funcs[30]? = some Try.f30 := by kernel_rfl
theorem f30_ok : (Try.f30.name != "runtime.NumGoroutine" && Try.f30.body.isSome) = true := by kernel_rfl
theorem f28_at : Try.prog.funcs[28]? = some Try.f28 := by kernel_rfl
theorem f28_ok : (Try.f28.name != "runtime.NumGoroutine" && Try.f28.body.isSome) = true := by kernel_rfl
theorem f96_at : Try.prog.funcs[96]? = some Try.f96 := by kernel_rfl
theorem f96_ok : (Try.f96.name != "runtime.NumGoroutine" && Try.f96.body.isSome) = true := by kernel_rfl
theorem f97_at : Try.prog.funcs[97]? = some Try.f97 := by kernel_rfl
theorem f97_ok : (Try.f97.name != "runtime.NumGoroutine" && Try.f97.body.isSome) = true := by kernel_rfl
theorem f98_at : Try.prog.funcs[98]? = some Try.f98 := by kernel_rfl
theorem f98_ok : (Try.f98.name != "runtime.NumGoroutine" && Try.f98.body.isSome) = true := by kernel_rfl
theorem f32_at : Try.prog.funcs[32]? = some Try.f32 := by kernel_rfl
theorem f32_ok : (Try.f32.name != "runtime.NumGoroutine" && Try.f32.body.isSome) = true := by kernel_rfl
theorem f77_at : Try.prog.funcs[77]? = some Try.f77 := by kernel_rfl
theorem f77_ok : (Try.f77.name != "runtime.NumGoroutine" && Try.f77.body.isSome) = true := by kernel_rfl
theorem f76_at : Try.prog.funcs[76]? = some Try.f76 := by kernel_rfl
theorem f76_ok : (Try.f76.name != "runtime.NumGoroutine" && Try.f76.body.isSome) = true := by kernel_rfl
theorem f34_at : Try.prog.funcs[34]? = some Try.f34 := by kernel_rfl
theorem f34_ok : (Try.f34.name != "runtime.NumGoroutine" && Try.f34.body.isSome) = true := by kernel_rfl
theorem f37_at : Try.prog.funcs[37]? = some Try.f37 := by kernel_rfl
theorem f37_ok : (Try.f37.name != "runtime.NumGoroutine" && Try.f37.body.isSome) = true := by kernel_rfl
theorem f50_at : Try.prog.funcs[50]? = some Try.f50 := by kernel_rfl
theorem f50_ok : (Try.f50.name != "runtime.NumGoroutine" && Try.f50.body.isSome) = true := by kernel_rfl
theorem f61_at : Try.prog.funcs[61]? = some Try.f61 := by kernel_rfl
theorem f61_ok : (Try.f61.name != "runtime.NumGoroutine" && Try.f61.body.isSome) = true := by kernel_rfl
theorem f62_at : Try.prog.funcs[62]? = some Try.f62 := by kernel_rfl
theorem f62_ok : (Try.f62.name != "runtime.NumGoroutine" && Try.f62.body.isSome) = true := by kernel_rfl
theorem f85_at : Try.prog.funcs[85]? = some Try.f85 := by kernel_rfl
theorem f85_ok : (Try.f85.name != "runtime.NumGoroutine" && Try.f85.body.isSome) = true := by kernel_rfl
theorem f27_at : Try.prog.funcs[27]? = some Try.f27 := by kernel_rfl
theorem f27_ok : (Try.f27.name != "runtime.NumGoroutine" && Try.f27.body.isSome) = true := by kernel_rfl
theorem f91_at : Try.prog.funcs[91]? = some Try.f91 := by kernel_rfl
theorem f91_ok : (Try.f91.name != "runtime.NumGoroutine" && Try.f91.body.isSome) = true := by kernel_rfl
theorem f47_at : Try.prog.funcs[47]? = some Try.f47 := by kernel_rfl
theorem f47_ok : (Try.f47.name != "runtime.NumGoroutine" && Try.f47.body.isSome) = true := by kernel_rfl
theorem f49_at : Try.prog.funcs[49]? = some Try.f49 := by kernel_rfl
theorem f49_ok : (Try.f49.name != "runtime.NumGoroutine" && Try.f49.body.isSome) = true := by kernel_rfl
theorem f99_at : Try.prog.funcs[99]? = some Try.f99 := by kernel_rfl
theorem f99_ok : (Try.f99.name != "runtime.NumGoroutine" && Try.f99.body.isSome) = true := by kernel_rfl
theorem f42_at : Try.prog.funcs[42]? = some Try.f42 := by kernel_rfl
theorem f42_ok : (Try.f42.name != "runtime.NumGoroutine" && Try.f42.body.isSome) = true := by kernel_rfl
theorem f24_at : Try.prog.funcs[24]? = some Try.f24 := by kernel_rfl
theorem f24_ok : (Try.f24.name != "runtime.NumGoroutine" && Try.f24.body.isSome) = true := by kernel_rfl
theorem f114_at : Try.prog.funcs[114]? = some Try.f114 := by kernel_rfl
theorem f114_ok : (Try.f114.name != "runtime.NumGoroutine" && Try.f114.body.isSome) = true := by kernel_rfl
theorem f110_at : Try.prog.funcs[110]? = some Try.f110 := by kernel_rfl
theorem f110_ok : (Try.f110.name != "runtime.NumGoroutine" && Try.f110.body.isSome) = true := by kernel_rfl
theorem f118_at : Try.prog.funcs[118]? = some Try.f118 := by kernel_rfl
theorem f118_ok : (Try.f118.name != "runtime.NumGoroutine" && Try.f118.body.isSome) = true := by kernel_rfl
theorem f161_at : Try.prog.funcs[161]? = some Try.f161 := by kernel_rfl
theorem f161_ok : (Try.f161.name != "runtime.NumGoroutine" && Try.f161.body.isSome) = true := by kernel_rfl
theorem f131_at : Try.prog.funcs[131]? = some Try.f131 := by kernel_rfl
theorem f131_ok : (Try.f131.name != "runtime.NumGoroutine" && Try.f131.body.isSome) = true := by kernel_rfl
theorem f115_at : Try.prog.funcs[115]? = some Try.f115 := by kernel_rfl
theorem f115_ok : (Try.f115.name != "runtime.NumGoroutine" && Try.f115.body.isSome) = true := by kernel_rfl
theorem f45_at : Try.prog.funcs[45]? = some Try.f45 := by kernel_rfl
theorem f45_ok : (Try.f45.name != "runtime.NumGoroutine" && Try.f45.body.isSome) = true := by kernel_rfl
theorem f108_at : Try.prog.funcs[108]? = some Try.f108 := by kernel_rfl
theorem f108_ok : (Try.f108.name != "runtime.NumGoroutine" && Try.f108.body.isSome) = true := by kernel_rfl
theorem f109_at : Try.prog.funcs[109]? = some Try.f109 := by kernel_rfl
theorem f109_ok : (Try.f109.name != "runtime.NumGoroutine" && Try.f109.body.isSome) = true := by kernel_rfl
theorem f41_at : Try.prog.funcs[41]? = some Try.f41 := by kernel_rfl
theorem f41_ok : (Try.f41.name != "runtime.NumGoroutine" && Try.f41.body.isSome) = true := by kernel_rfl
theorem f59_at : Try.prog.funcs[59]? = some Try.f59 := by kernel_rfl
theorem f59_ok : (Try.f59.name != "runtime.NumGoroutine" && Try.f59.body.isSome) = true := by kernel_rfl
theorem f116_at : Try.prog.funcs[116]? = some Try.f116 := by kernel_rfl
theorem f116_ok : (Try.f116.name != "runtime.NumGoroutine" && Try.f116.body.isSome) = true := by kernel_rfl
theorem f120_at : Try.prog.funcs[120]? = some Try.f120 := by kernel_rfl
theorem f120_ok : (Try.f120.name != "runtime.NumGoroutine" && Try.f120.body.isSome) = true := by kernel_rfl
theorem f54_at : Try.prog.funcs[54]? = some Try.f54 := by kernel_rfl
theorem f54_ok : (Try.f54.name != "runtime.NumGoroutine" && Try.f54.body.isSome) = true := by kernel_rfl
theorem f52_at : Try.prog.funcs[52]? = some Try.f52 := by kernel_rfl
theorem f52_ok : (Try.f52.name != "runtime.NumGoroutine" && Try.f52.body.isSome) = true := by kernel_rfl
theorem f53_at : Try.prog.funcs[53]? = some Try.f53 := by kernel_rfl
theorem f53_ok : (Try.f53.name != "runtime.NumGoroutine" && Try.f53.body.isSome) = true := by kernel_rfl
theorem f121_at : Try.prog.funcs[121]? = some Try.f121 := by kernel_rfl
theorem f121_ok : (Try.f121.name != "runtime.NumGoroutine" && Try.f121.body.isSome) = true := by kernel_rfl
theorem f153_at : Try.prog.funcs[153]? = some Try.f153 := by kernel_rfl
theorem f153_ok : (Try.f153.name != "runtime.NumGoroutine" && Try.f153.body.isSome) = true := by kernel_rfl
theorem f123_at : Try.prog.funcs[123]? = some Try.f123 := by kernel_rfl
theorem f123_ok : (Try.f123.name != "runtime.NumGoroutine" && Try.f123.body.isSome) = true := by kernel_rfl
theorem f154_at : Try.prog.funcs[154]? = some Try.f154 := by kernel_rfl
theorem f154_ok : (Try.f154.name != "runtime.NumGoroutine" && Try.f154.body.isSome) = true := by kernel_rfl
theorem f122_at : Try.prog.funcs[122]? = some Try.f122 := by kernel_rfl
theorem f122_ok : (Try.f122.name != "runtime.NumGoroutine" && Try.f122.body.isSome) = true := by kernel_rfl
theorem f124_at : Try.prog.funcs[124]? = some Try.f124 := by kernel_rfl
theorem f124_ok : (Try.f124.name != "runtime.NumGoroutine" && Try.f124.body.isSome) = true := by kernel_rfl
theorem f55_at : Try.prog.funcs[55]? = some Try.f55 := by kernel_rfl
theorem f55_ok : (Try.f55.name != "runtime.NumGoroutine" && Try.f55.body.isSome) = true := by kernel_rfl
theorem f12_at : Try.prog.funcs[12]? = some Try.f12 := by kernel_rfl
theorem f140_at : Try.prog.funcs[140]? = some Try.f140 := by kernel_rfl
theorem f140_ok : (Try.f140.name != "runtime.NumGoroutine" && Try.f140.body.isSome) = true := by kernel_rfl
theorem f141_at : Try.prog.funcs[141]? = some Try.f141 := by kernel_rfl
theorem f141_ok : (Try.f141.name != "runtime.NumGoroutine" && Try.f141.body.isSome) = true := by kernel_rfl
theorem f87_at : Try.prog.funcs[87]? = some Try.f87 := by kernel_rfl
theorem f87_ok : (Try.f87.name != "runtime.NumGoroutine" && Try.f87.body.isSome) = true := by kernel_rfl
theorem f201_at : Try.prog.funcs[201]? = some Try.f201 := by kernel_rfl
theorem f201_ok : (Try.f201.name != "runtime.NumGoroutine" && Try.f201.body.isSome) = true := by kernel_rfl
theorem f172_at : Try.prog.funcs[172]? = some Try.f172 := by kernel_rfl
theorem f172_ok : (Try.f172.name != "runtime.NumGoroutine" && Try.f172.body.isSome) = true := by kernel_rfl
theorem f144_at : Try.prog.funcs[144]? = some Try.f144 := by kernel_rfl
theorem f144_ok : (Try.f144.name != "runtime.NumGoroutine" && Try.f144.body.isSome) = true := by kernel_rfl
theorem f176_at : Try.prog.funcs[176]? = some Try.f176 := by kernel_rfl
theorem f176_ok : (Try.f176.name != "runtime.NumGoroutine" && Try.f176.body.isSome) = true := by kernel_rfl
theorem f165_at : Try.prog.funcs[165]? = some Try.f165 := by kernel_rfl
theorem f165_ok : (Try.f165.name != "runtime.NumGoroutine" && Try.f165.body.isSome) = true := by kernel_rfl
theorem f180_at : Try.prog.funcs[180]? = some Try.f180 := by kernel_rfl
theorem f180_ok : (Try.f180.name != "runtime.NumGoroutine" && Try.f180.body.isSome) = true := by kernel_rfl
theorem f166_at : Try.prog.funcs[166]? = some Try.f166 := by kernel_rfl
theorem f166_ok : (Try.f166.name != "runtime.NumGoroutine" && Try.f166.body.isSome) = true := by kernel_rfl
theorem f181_at : Try.prog.funcs[181]? = some Try.f181 := by kernel_rfl
theorem f181_ok : (Try.f181.name != "runtime.NumGoroutine" && Try.f181.body.isSome) = true := by kernel_rfl
theorem f147_at : Try.prog.funcs[147]? = some Try.f147 := by kernel_rfl
theorem f147_ok : (Try.f147.name != "runtime.NumGoroutine" && Try.f147.body.isSome) = true := by kernel_rfl
theorem f167_at : Try.prog.funcs[167]? = some Try.f167 := by kernel_rfl
theorem f167_ok : (Try.f167.name != "runtime.NumGoroutine" && Try.f167.body.isSome) = true := by kernel_rfl
theorem f89_at : Try.prog.funcs[89]? = some Try.f89 := by kernel_rfl
theorem f89_ok : (Try.f89.name != "runtime.NumGoroutine" && Try.f89.body.isSome) = true := by kernel_rfl
theorem f88_at : Try.prog.funcs[88]? = some Try.f88 := by kernel_rfl
theorem f88_ok : (Try.f88.name != "runtime.NumGoroutine" && Try.f88.body.isSome) = true := by kernel_rfl
theorem f90_at : Try.prog.funcs[90]? = some Try.f90 := by kernel_rfl
theorem f90_ok : (Try.f90.name != "runtime.NumGoroutine" && Try.f90.body.isSome) = true := by kernel_rfl
theorem f93_at : Try.prog.funcs[93]? = some Try.f93 := by kernel_rfl
theorem f93_ok : (Try.f93.name != "runtime.NumGoroutine" && Try.f93.body.isSome) = true := by kernel_rfl
theorem f94_at : Try.prog.funcs[94]? = some Try.f94 := by kernel_rfl
theorem f94_ok : (Try.f94.name != "runtime.NumGoroutine" && Try.f94.body.isSome) = true := by kernel_rfl
theorem f143_at : Try.prog.funcs[143]? = some Try.f143 := by kernel_rfl
theorem f143_ok : (Try.f143.name != "runtime.NumGoroutine" && Try.f143.body.isSome) = true := by kernel_rfl
theorem f146_at : Try.prog.funcs[146]? = some Try.f146 := by kernel_rfl
theorem f146_ok : (Try.f146.name != "runtime.NumGoroutine" && Try.f146.body.isSome) = true := by kernel_rfl
theorem f163_at : Try.prog.funcs[163]? = some Try.f163 := by kernel_rfl
theorem f163_ok : (Try.f163.name != "runtime.NumGoroutine" && Try.f163.body.isSome) = true := by kernel_rfl
theorem f164_at : Try.prog.funcs[164]? = some Try.f164 := by kernel_rfl
theorem f164_ok : (Try.f164.name != "runtime.NumGoroutine" && Try.f164.body.isSome) = true := by kernel_rfl
theorem f102_at : Try.prog.funcs[102]? = some Try.f102 := by kernel_rfl
theorem f102_ok : (Try.f102.name != "runtime.NumGoroutine" && Try.f102.body.isSome) = true := by kernel_rfl
theorem f150_at : Try.prog.funcs[150]? = some Try.f150 := by kernel_rfl
theorem f150_ok : (Try.f150.name != "runtime.NumGoroutine" && Try.f150.body.isSome) = true := by kernel_rfl
theorem f149_at : Try.prog.funcs[149]? = some Try.f149 := by kernel_rfl
theorem f149_ok : (Try.f149.name != "runtime.NumGoroutine" && Try.f149.body.isSome) = true := by kernel_rfl
noncomputable def codes : List (Nat × Func × List (Nat × Hint)) := [(86, Try.f86, []), (140, Try.f140, [(2, ⟨[.var 8 (.d (.int .i64))], [], (some (0, []))⟩)]), (141, Try.f141, []), (142, Try.f142, []), (87, Try.f87, []), (201, Try.f201, []), (172, Try.f172, [(5, ⟨[.var 5 (.d (.int .i64)), .var 6 (.d (.int .i64)), .cel 0 [] (.st (.pair (.int .i64) (.int .i64)))], [], (some (0, [.var 5 (.d (.int .i64)), .cel 0 [] (.st (.pair (.int .i64) (.int .i64)))]))⟩)]), (144, Try.f144, [(2, ⟨[.var 8 (.d (.int .i64))], [], (some (0, []))⟩)]), (176, Try.f176, [(4, ⟨[.var 3 (.d (.int .i64)), .cel 0 [] (.st (.pair (.int .i64) (.int .i64)))], [], (some (0, [.cel 0 [] (.st (.pair (.int .i64) (.int .i64)))]))⟩), (9, ⟨[.var 3 (.d (.int .i64)), .var 5 (.d (.int .i64)), .cel 0 [] (.st (.pair (.int .i64) (.int .i64)))], [], (some (2, [.var 3 (.d (.int .i64)), .cel 0 [] (.st (.pair (.int .i64) (.int .i64)))]))⟩)]), (168, Try.f168, [(3, ⟨[.var 13 (.d (.int .i64)), .box 3 [] (.s (.p (.o (.st (.pair .str (.pair .bool (.slice (.st (.pair (.int .i64) (.int .i64)))))))) (.d (.slice (.st (.pair (.int .i64) (.int .i64)))))))], [], (some (0, [.box 3 [] (.s (.p (.o (.st (.pair .str (.pair .bool (.slice (.st (.pair (.int .i64) (.int .i64)))))))) (.d (.slice (.st (.pair (.int .i64) (.int .i64)))))))]))⟩)]), (165, Try.f165, [(2, ⟨[.var 8 (.d (.int .i64))], [], (some (0, []))⟩)]), (180, Try.f180, [(2, ⟨[.var 8 (.d (.int .i64))], [], (some (0, []))⟩)]), (166, Try.f166, []), (181, Try.f181, []), (147, Try.f147, []), (167, Try.f167, []), (89, Try.f89, []), (88, Try.f88, []), (90, Try.f90, []), (93, Try.f93, []), (94, Try.f94, []), (143, Try.f143, [(2, ⟨[.var 8 (.d (.int .i64))], [], (some (0, []))⟩)]), (146, Try.f146, []), (163, Try.f163, [(3, ⟨[.var 9 (.d (.int .i64)), .var 10 (.d (.int .i64))], [], (some (0, [.var 9 (.d (.int .i64))]))⟩)]), (164, Try.f164, []), (102, Try.f102, []), (150, Try.f150, [(2, ⟨[.var 8 (.d (.int .i64))], [], (some (0, []))⟩)]), (149, Try.f149, [])]
theorem codesOk : CodesOk Try.prog codes := .cons f86_at f86_ok <| .cons f140_at f140_ok <| .cons f141_at f141_ok <| .cons f142_at f142_ok <| .cons f87_at f87_ok <| .cons f201_at f201_ok <| .cons f172_at f172_ok <| .cons f144_at f144_ok <| .cons f176_at f176_ok <| .cons f168_at f168_ok <| .cons f165_at f165_ok <| .cons f180_at f180_ok <| .cons f166_at f166_ok <| .cons f181_at f181_ok <| .cons f147_at f147_ok <| .cons f167_at f167_ok <| .cons f89_at f89_ok <| .cons f88_at f88_ok <| .cons f90_at f90_ok <| .cons f93_at f93_ok <| .cons f94_at f94_ok <| .cons f143_at f143_ok <| .cons f146_at f146_ok <| .cons f163_at f163_ok <| .cons f164_at f164_ok <| .cons f102_at f102_ok <| .cons f150_at f150_ok <| .cons f149_at f149_ok <| .nil
section
open Go.RowKit
end
theorem mapsOk : mapsB Try.prog [(146, (.int .i64), .bool)] = true := by kernel_rfl
theorem f105_at : Try.prog.funcs[105]? = some Try.f105 := by kernel_rfl
theorem f105_ok : (Try.f105.name != "runtime.NumGoroutine" && Try.f105.body.isSome) = true := by kernel_rfl
noncomputable def codesR : List (Nat × Func × List (Nat × Hint)) := [(86, Try.f86, []), (140, Try.f140, [(2, ⟨[.var 8 (.d (.int .i64))], [], (some (0, []))⟩)]), (141, Try.f141, []), (142, Try.f142, []), (87, Try.f87, []), (201, Try.f201, []), (172, Try.f172, [(5, ⟨[.var 5 (.d (.int .i64)), .var 6 (.d (.int .i64)), .cel 0 [] (.st (.pair (.int .i64) (.int .i64)))], [], (some (0, [.var 5 (.d (.int .i64)), .cel 0 [] (.st (.pair (.int .i64) (.int .i64)))]))⟩)]), (144, Try.f144, [(2, ⟨[.var 8 (.d (.int .i64))], [], (some (0, []))⟩)]), (176, Try.f176, [(4, ⟨[.var 3 (.d (.int .i64)), .cel 0 [] (.st (.pair (.int .i64) (.int .i64)))], [], (some (0, [.cel 0 [] (.st (.pair (.int .i64) (.int .i64)))]))⟩), (9, ⟨[.var 3 (.d (.int .i64)), .var 5 (.d (.int .i64)), .cel 0 [] (.st (.pair (.int .i64) (.int .i64)))], [], (some (2, [.var 3 (.d (.int .i64)), .cel 0 [] (.st (.pair (.int .i64) (.int .i64)))]))⟩)]), (168, Try.f168, [(3, ⟨[.var 13 (.d (.int .i64)), .box 3 [] (.s (.p (.o (.st (.pair .str (.pair .bool (.slice (.st (.pair (.int .i64) (.int .i64)))))))) (.d (.slice (.st (.pair (.int .i64) (.int .i64)))))))], [], (some (0, [.box 3 [] (.s (.p (.o (.st (.pair .str (.pair .bool (.slice (.st (.pair (.int .i64) (.int .i64)))))))) (.d (.slice (.st (.pair (.int .i64) (.int .i64)))))))]))⟩)]), (165, Try.f165, [(2, ⟨[.var 8 (.d (.int .i64))], [], (some (0, []))⟩)]), (180, Try.f180, [(2, ⟨[.var 8 (.d (.int .i64))], [], (some (0, []))⟩)]), (166, Try.f166, []), (181, Try.f181, []), (147, Try.f147, []), (167, Try.f167, []), (89, Try.f89, []), (88, Try.f88, []), (90, Try.f90, []), (93, Try.f93, []), (94, Try.f94, []), (143, Try.f143, [(2, ⟨[.var 8 (.d (.int .i64))], [], (some (0, []))⟩)]), (146, Try.f146, []), (163, Try.f163, [(3, ⟨[.var 9 (.d (.int .i64)), .var 10 (.d (.int .i64))], [], (some (0, [.var 9 (.d (.int .i64))]))⟩)]), (164, Try.f164, []), (102, Try.f102, []), (150, Try.f150, [(2, ⟨[.var 8 (.d (.int .i64))], [], (some (0, []))⟩)]), (149, Try.f149, []), (105, Try.f105, [(3, ⟨[.var 16 (.d (.int .i64)), .box 3 [] (.s (.p (.d (.slice T_api_Prop)) (.p (.o (.int .i64)) (.r (.int .i64)))))], [], (some (0, [.box 3 [] (.s (.p (.d (.slice T_api_Prop)) (.p (.o (.int .i64)) (.r (.int .i64)))))]))⟩)])]
theorem codesROk : CodesOk Try.prog codesR := .cons f86_at f86_ok <| .cons f140_at f140_ok <| .cons f141_at f141_ok <| .cons f142_at f142_ok <| .cons f87_at f87_ok <| .cons f201_at f201_ok <| .cons f172_at f172_ok <| .cons f144_at f144_ok <| .cons f176_at f176_ok <| .cons f168_at f168_ok <| .cons f165_at f165_ok <| .cons f180_at f180_ok <| .cons f166_at f166_ok <| .cons f181_at f181_ok <| .cons f147_at f147_ok <| .cons f167_at f167_ok <| .cons f89_at f89_ok <| .cons f88_at f88_ok <| .cons f90_at f90_ok <| .cons f93_at f93_ok <| .cons f94_at f94_ok <| .cons f143_at f143_ok <| .cons f146_at f146_ok <| .cons f163_at f163_ok <| .cons f164_at f164_ok <| .cons f102_at f102_ok <| .cons f150_at f150_ok <| .cons f149_at f149_ok <| .cons f105_at f105_ok <| .nil
noncomputable def codesM : List (Nat × Func × List (Nat × Hint)) := [(86, Try.f86, []), (140, Try.f140, [(2, ⟨[.var 8 (.d (.int .i64))], [], (some (0, []))⟩)]), (141, Try.f141, []), (142, Try.f142, []), (87, Try.f87, []), (201, Try.f201, []), (172, Try.f172, [(5, ⟨[.var 5 (.d (.int .i64)), .var 6 (.d (.int .i64)), .cel 0 [] (.st (.pair (.int .i64) (.int .i64)))], [], (some (0, [.var 5 (.d (.int .i64)), .cel 0 [] (.st (.pair (.int .i64) (.int .i64)))]))⟩)]), (144, Try.f144, [(2, ⟨[.var 8 (.d (.int .i64))], [], (some (0, []))⟩)]), (176, Try.f176, [(4, ⟨[.var 3 (.d (.int .i64)), .cel 0 [] (.st (.pair (.int .i64) (.int .i64)))], [], (some (0, [.cel 0 [] (.st (.pair (.int .i64) (.int .i64)))]))⟩), (9, ⟨[.var 3 (.d (.int .i64)), .var 5 (.d (.int .i64)), .cel 0 [] (.st (.pair (.int .i64) (.int .i64)))], [], (some (2, [.var 3 (.d (.int .i64)), .cel 0 [] (.st (.pair (.int .i64) (.int .i64)))]))⟩)]), (168, Try.f168, [(3, ⟨[.var 13 (.d (.int .i64)), .box 3 [] (.s (.p (.o (.st (.pair .str (.pair .bool (.slice (.st (.pair (.int .i64) (.int .i64)))))))) (.d (.slice (.st (.pair (.int .i64) (.int .i64)))))))], [], (some (0, [.box 3 [] (.s (.p (.o (.st (.pair .str (.pair .bool (.slice (.st (.pair (.int .i64) (.int .i64)))))))) (.d (.slice (.st (.pair (.int .i64) (.int .i64)))))))]))⟩)]), (165, Try.f165, [(2, ⟨[.var 8 (.d (.int .i64))], [], (some (0, []))⟩)]), (180, Try.f180, [(2, ⟨[.var 8 (.d (.int .i64))], [], (some (0, []))⟩)]), (166, Try.f166, []), (181, Try.f181, []), (147, Try.f147, []), (167, Try.f167, []), (89, Try.f89, []), (88, Try.f88, []), (90, Try.f90, []), (93, Try.f93, []), (94, Try.f94, []), (143, Try.f143, [(2, ⟨[.var 8 (.d (.int .i64))], [], (some (0, []))⟩)]), (146, Try.f146, []), (163, Try.f163, [(3, ⟨[.var 9 (.d (.int .i64)), .var 10 (.d (.int .i64))], [], (some (0, [.var 9 (.d (.int .i64))]))⟩)]), (164, Try.f164, []), (102, Try.f102, []), (150, Try.f150, [(2, ⟨[.var 8 (.d (.int .i64))], [], (some (0, []))⟩)]), (149, Try.f149, []), (100, Try.f100, [(3, ⟨[.var 3 (.d (.int .i64)), .var 11 (.d (.int .i64))], [], (some (0, [.var 3 (.d (.int .i64))]))⟩), (11, ⟨[.var 6 (.o (.int .i64)), .var 27 (.d (.int .i64))], [], (some (2, [.var 6 (.o (.int .i64))]))⟩)])]
theorem codesMOk : CodesOk Try.prog codesM := .cons f86_at f86_ok <| .cons f140_at f140_ok <| .cons f141_at f141_ok <| .cons f142_at f142_ok <| .cons f87_at f87_ok <| .cons f201_at f201_ok <| .cons f172_at f172_ok <| .cons f144_at f144_ok <| .cons f176_at f176_ok <| .cons f168_at f168_ok <| .cons f165_at f165_ok <| .cons f180_at f180_ok <| .cons f166_at f166_ok <| .cons f181_at f181_ok <| .cons f147_at f147_ok <| .cons f167_at f167_ok <| .cons f89_at f89_ok <| .cons f88_at f88_ok <| .cons f90_at f90_ok <| .cons f93_at f93_ok <| .cons f94_at f94_ok <| .cons f143_at f143_ok <| .cons f146_at f146_ok <| .cons f163_at f163_ok <| .cons f164_at f164_ok <| .cons f102_at f102_ok <| .cons f150_at f150_ok <| .cons f149_at f149_ok <| .cons f100_at f100_ok <| .nil
noncomputable abbrev EN (k : Nat) (sp : List (Nat × Go.PG.Spec)) : Go.PG.Env := { T := T, specs := sp, codes := codes, k := k, calm := [168, 0], maps := [(146, (.int .i64), .bool)] }
noncomputable def slCloneAtom : (k : Nat) → (Ty.D (.slice T_api_Atom)) → Option (Ty.D (.slice T_api_Atom)) := fun (k : Nat) (x : T_api_Atom.slice.D) => P.cond (P.ilt ((0 : Int)) (P.len x)) (P.cond (P.not true) (some []) (P.cond (P.room (P.add (P.len (P.nil (Int × Int))) (P.len x)) 16) (some (P.app [] x)) none)) (P.amb (some []) (P.cond (P.room (P.add (P.len (P.nil (Int × Int))) (P.len x)) 16) (some (P.app [] x)) none))
theorem slCloneAtom_eq (k : Nat) (x : (Ty.D (.slice T_api_Atom))) : evFn (EN k []) 6 Try.f142 [] (.slice T_api_Atom) (.slice T_api_Atom) x = slCloneAtom k x := by kernel_rfl
theorem slCloneAtom_spec (k : Nat) : SpecOk Try.prog GG 142 ⟨(.slice T_api_Atom), (.slice T_api_Atom), slCloneAtom k⟩ :=
  fn_spec (envOk (E := EN k []) tabOk (.nil) codesOk mixedOk (fun _ _ _ _ => trivial) (hmp := mapsOk)) f142_at (fun x => (slCloneAtom_eq k x).symm)
noncomputable def object_Copy : (k : Nat) → (Ty.D T_api_Shape) → Option (Ty.D T_api_Shape) := fun (k : Nat) (x : T_api_Shape.D) => P.bind (slCloneAtom k x.snd) fun (r : List (Int × Int)) => P.bind (P.iter k (fun (y : Int × List (ByteArray × Bool × List (Int × Int)) × List (Int × Int)) => P.cond (P.ilt y.fst (P.len x.fst)) (P.cond (P.inb y.fst (P.len x.fst)) (P.bind (slCloneAtom k (P.get x.fst y.fst ((ByteArray.mk #[]), false, [])).snd.snd) fun (r : List (Int × Int)) => P.cond (P.room (P.add (P.len y.snd.fst) (P.len [((P.get x.fst y.fst ((ByteArray.mk #[]), false, [])).fst, (P.get x.fst y.fst ((ByteArray.mk #[]), false, [])).snd.fst, r)])) 48) (some (Sum.inl (P.wrap IntKind.i64 (P.add y.fst ((1 : Int))), P.app y.snd.fst [((P.get x.fst y.fst ((ByteArray.mk #[]), false, [])).fst, (P.get x.fst y.fst ((ByteArray.mk #[]), false, [])).snd.fst, r)], y.snd.snd))) none) none) (some (Sum.inr (Sum.inl (y.snd.fst, y.snd.snd))))) ((0 : Int), [], r)) (P.either (fun (z : List (ByteArray × Bool × List (Int × Int)) × List (Int × Int)) => some (z.fst, z.snd)) fun (r : List (ByteArray × Bool × List (Int × Int)) × List (Int × Int)) => some r)
theorem object_Copy_eq (k : Nat) (x : (Ty.D T_api_Shape)) : evFn (EN k [(142, ⟨(.slice T_api_Atom), (.slice T_api_Atom), slCloneAtom k⟩)]) 6 Try.f168 [(3, ⟨[.var 13 (.d (.int .i64)), .box 3 [] (.s (.p (.o (.st (.pair .str (.pair .bool (.slice (.st (.pair (.int .i64) (.int .i64)))))))) (.d (.slice (.st (.pair (.int .i64) (.int .i64)))))))], [], (some (0, [.box 3 [] (.s (.p (.o (.st (.pair .str (.pair .bool (.slice (.st (.pair (.int .i64) (.int .i64)))))))) (.d (.slice (.st (.pair (.int .i64) (.int .i64)))))))]))⟩)] T_api_Shape T_api_Shape x = object_Copy k x := by kernel_rfl
theorem object_Copy_spec (k : Nat) : SpecOk Try.prog GG 168 ⟨T_api_Shape, T_api_Shape, object_Copy k⟩ :=
  fn_spec (envOk (E := EN k [(142, ⟨(.slice T_api_Atom), (.slice T_api_Atom), slCloneAtom k⟩)]) tabOk (.cons (slCloneAtom_spec k) f142_at f142_ok <| .nil) codesOk mixedOk (fun _ _ _ _ => trivial) (hmp := mapsOk)) f168_at (fun x => (object_Copy_eq k x).symm)
noncomputable def object_Get : (k : Nat) → (Ty.D (.pair T_api_Shape .str)) → Option (Ty.D (.pair T_api_Field .bool)) := fun (k : Nat) (x : (T_api_Shape.pair Ty.str).D) => P.bind (P.iter k (fun (y : Int) => P.cond (P.ilt y (P.len x.fst.fst)) (P.cond (P.inb y (P.len x.fst.fst)) (P.cond (P.seq (P.get x.fst.fst y ((ByteArray.mk #[]), false, [])).fst x.snd) (P.map (fun (r : (ByteArray × Bool × List (Int × Int)) × Bool) => Sum.inr (Sum.inr r)) (P.cond (P.ilt y ((0 : Int))) (some (((ByteArray.mk #[]), false, []), false)) (P.cond (P.inb y (P.len x.fst.fst)) (P.bind (slCloneAtom k (P.get x.fst.fst y ((ByteArray.mk #[]), false, [])).snd.snd) fun (r : List (Int × Int)) => some (((P.get x.fst.fst y ((ByteArray.mk #[]), false, [])).fst, (P.get x.fst.fst y ((ByteArray.mk #[]), false, [])).snd.fst, r), true)) none))) (some (Sum.inl (P.wrap IntKind.i64 (P.add y ((1 : Int))))))) none) (some (Sum.inr (Sum.inl PUnit.unit)))) ((0 : Int))) (P.either (fun (z : PUnit) => P.cond (P.ilt ((-1 : Int)) ((0 : Int))) (some (((ByteArray.mk #[]), false, []), false)) (P.cond (P.inb ((-1 : Int)) (P.len x.fst.fst)) (P.bind (slCloneAtom k (P.get x.fst.fst ((-1 : Int)) ((ByteArray.mk #[]), false, [])).snd.snd) fun (r : List (Int × Int)) => some (((P.get x.fst.fst ((-1 : Int)) ((ByteArray.mk #[]), false, [])).fst, (P.get x.fst.fst ((-1 : Int)) ((ByteArray.mk #[]), false, [])).snd.fst, r), true)) none)) fun (r : (ByteArray × Bool × List (Int × Int)) × Bool) => some r)
theorem object_Get_eq (k : Nat) (x : (Ty.D (.pair T_api_Shape .str))) : evFn (EN k [(142, ⟨(.slice T_api_Atom), (.slice T_api_Atom), slCloneAtom k⟩)]) 6 Try.f86 [] (.pair T_api_Shape .str) (.pair T_api_Field .bool) x = object_Get k x := by kernel_rfl
theorem object_Get_spec (k : Nat) : SpecOk Try.prog GG 86 ⟨(.pair T_api_Shape .str), (.pair T_api_Field .bool), object_Get k⟩ :=
  fn_spec (envOk (E := EN k [(142, ⟨(.slice T_api_Atom), (.slice T_api_Atom), slCloneAtom k⟩)]) tabOk (.cons (slCloneAtom_spec k) f142_at f142_ok <| .nil) codesOk mixedOk (fun _ _ _ _ => trivial) (hmp := mapsOk)) f86_at (fun x => (object_Get_eq k x).symm)
noncomputable def slices_Clone_api_Prop_api_Prop : (k : Nat) → (Ty.D (.slice T_api_Prop)) → Option (Ty.D (.slice T_api_Prop)) := fun (k : Nat) (x : T_api_Prop.slice.D) => P.cond (P.ilt ((0 : Int)) (P.len x)) (P.cond (P.not true) (some []) (P.cond (P.room (P.add (P.len (P.nil (ByteArray × Int × Int))) (P.len x)) 32) (some (P.app [] x)) none)) (P.amb (some []) (P.cond (P.room (P.add (P.len (P.nil (ByteArray × Int × Int))) (P.len x)) 32) (some (P.app [] x)) none))
theorem slices_Clone_api_Prop_api_Prop_eq (k : Nat) (x : (Ty.D (.slice T_api_Prop))) : evFn (EN k []) 6 Try.f151 [] (.slice T_api_Prop) (.slice T_api_Prop) x = slices_Clone_api_Prop_api_Prop k x := by kernel_rfl
theorem slices_Clone_api_Prop_api_Prop_spec (k : Nat) : SpecOk Try.prog GG 151 ⟨(.slice T_api_Prop), (.slice T_api_Prop), slices_Clone_api_Prop_api_Prop k⟩ :=
  fn_spec (envOk (E := EN k []) tabOk (.nil) codesOk mixedOk (fun _ _ _ _ => trivial) (hmp := mapsOk)) f151_at (fun x => (slices_Clone_api_Prop_api_Prop_eq k x).symm)
noncomputable def slices_Clone_int_int : (k : Nat) → (Ty.D (.slice (.int .i64))) → Option (Ty.D (.slice (.int .i64))) := fun (k : Nat) (x : (Ty.int IntKind.i64).slice.D) => P.cond (P.ilt ((0 : Int)) (P.len x)) (P.cond (P.not true) (some []) (P.cond (P.room (P.add (P.len (P.nil Int)) (P.len x)) 8) (some (P.app [] x)) none)) (P.amb (some []) (P.cond (P.room (P.add (P.len (P.nil Int)) (P.len x)) 8) (some (P.app [] x)) none))
theorem slices_Clone_int_int_eqO (k : Nat) (x : (Ty.D (.slice (.int .i64)))) : evFnO (EN k []) 6 Try.f152 [] (.slice (.int .i64)) (.int .i64) x = slices_Clone_int_int k x := by kernel_rfl
theorem slices_Clone_int_int_ospec (k : Nat) : OSpecOk Try.prog GG 152 ⟨(.slice (.int .i64)), (.int .i64), slices_Clone_int_int k⟩ :=
  fn_ospec (envOk (E := EN k []) tabOk (.nil) codesOk mixedOk (fun _ _ _ _ => trivial) (hmp := mapsOk)) f152_at (fun x => (slices_Clone_int_int_eqO k x).symm)
noncomputable def slices_Clones_int : (k : Nat) → (Ty.D (.slice (.slice (.int .i64)))) → Option (Ty.D (.slice (.slice (.int .i64)))) := fun (k : Nat) (x : (Ty.int IntKind.i64).slice.slice.D) => P.cond (P.ilt ((0 : Int)) (P.len x)) (P.cond (P.not true) (some []) (P.cond (P.room (P.add (P.len (P.nil (List Int))) (P.len x)) 24) (some (P.app [] x)) none)) (P.amb (some []) (P.cond (P.room (P.add (P.len (P.nil (List Int))) (P.len x)) 24) (some (P.app [] x)) none))
theorem slices_Clones_int_eqO (k : Nat) (x : (Ty.D (.slice (.slice (.int .i64))))) : evFnO (EN k []) 6 Try.f101 [] (.slice (.slice (.int .i64))) (.slice (.int .i64)) x = slices_Clones_int k x := by kernel_rfl
theorem slices_Clones_int_ospec (k : Nat) : OSpecOk Try.prog GG 101 ⟨(.slice (.slice (.int .i64))), (.slice (.int .i64)), slices_Clones_int k⟩ :=
  fn_ospec (envOk (E := EN k []) tabOk (.nil) codesOk mixedOk (fun _ _ _ _ => trivial) (hmp := mapsOk)) f101_at (fun x => (slices_Clones_int_eqO k x).symm)
noncomputable def state_Loc : (k : Nat) → (Ty.D (.pair T_api_State T_api_Atom)) → Option (Ty.D (.pair T_api_Shape .bool)) := fun (k : Nat) (x : (T_api_State.pair T_api_Atom).D) => P.bind (P.iter k (fun (y : Int) => P.cond (P.ilt y (P.len x.fst.snd.snd)) (P.cond (P.inb y (P.len x.fst.snd.snd)) (P.cond (P.and (P.ieq (P.get x.fst.snd.snd y (((0 : Int), (0 : Int)), [], [])).fst.fst x.snd.fst) (P.ieq (P.get x.fst.snd.snd y (((0 : Int), (0 : Int)), [], [])).fst.snd x.snd.snd)) (P.map (fun (r : (List (ByteArray × Bool × List (Int × Int)) × List (Int × Int)) × Bool) => Sum.inr (Sum.inr r)) (P.cond (P.ile ((0 : Int)) y) (P.cond (P.inb y (P.len x.fst.snd.snd)) (P.bind (object_Copy k (P.get x.fst.snd.snd y (((0 : Int), (0 : Int)), [], [])).snd) fun (r : List (ByteArray × Bool × List (Int × Int)) × List (Int × Int)) => some (r, true)) none) (some (([], []), false)))) (some (Sum.inl (P.wrap IntKind.i64 (P.add y ((1 : Int))))))) none) (some (Sum.inr (Sum.inl PUnit.unit)))) ((0 : Int))) (P.either (fun (z : PUnit) => P.cond (P.ile ((0 : Int)) ((-1 : Int))) (P.cond (P.inb ((-1 : Int)) (P.len x.fst.snd.snd)) (P.bind (object_Copy k (P.get x.fst.snd.snd ((-1 : Int)) (((0 : Int), (0 : Int)), [], [])).snd) fun (r : List (ByteArray × Bool × List (Int × Int)) × List (Int × Int)) => some (r, true)) none) (some (([], []), false))) fun (r : (List (ByteArray × Bool × List (Int × Int)) × List (Int × Int)) × Bool) => some r)
theorem state_Loc_eq (k : Nat) (x : (Ty.D (.pair T_api_State T_api_Atom))) : evFn (EN k [(142, ⟨(.slice T_api_Atom), (.slice T_api_Atom), slCloneAtom k⟩), (168, ⟨T_api_Shape, T_api_Shape, object_Copy k⟩)]) 6 Try.f148 [] (.pair T_api_State T_api_Atom) (.pair T_api_Shape .bool) x = state_Loc k x := by kernel_rfl
theorem state_Loc_spec (k : Nat) : SpecOk Try.prog GG 148 ⟨(.pair T_api_State T_api_Atom), (.pair T_api_Shape .bool), state_Loc k⟩ :=
  fn_spec (envOk (E := EN k [(142, ⟨(.slice T_api_Atom), (.slice T_api_Atom), slCloneAtom k⟩), (168, ⟨T_api_Shape, T_api_Shape, object_Copy k⟩)]) tabOk (.cons (slCloneAtom_spec k) f142_at f142_ok <| .cons (object_Copy_spec k) f168_at f168_ok <| .nil) codesOk mixedOk (fun _ _ _ _ => trivial) (hmp := mapsOk)) f148_at (fun x => (state_Loc_eq k x).symm)
noncomputable def conform_newest : (k : Nat) → (Ty.D (.pair T_api_Frame (.int .i64))) → Option (Ty.D (.int .i64)) := fun (k : Nat) (x : (T_api_Frame.pair (Ty.int IntKind.i64)).D) => P.cond (P.ilt x.snd ((0 : Int))) (some ((-1 : Int))) (P.cond (P.ile (P.len x.fst.snd.fst) x.snd) (some ((-1 : Int))) (P.cond (P.inb x.snd (P.len x.fst.snd.fst)) (some (P.get x.fst.snd.fst x.snd ((0 : Int)))) none))
theorem conform_newest_eq (k : Nat) (x : (Ty.D (.pair T_api_Frame (.int .i64)))) : evFn (EN k []) 6 Try.f145 [] (.pair T_api_Frame (.int .i64)) (.int .i64) x = conform_newest k x := by kernel_rfl
theorem conform_newest_spec (k : Nat) : SpecOk Try.prog GG 145 ⟨(.pair T_api_Frame (.int .i64)), (.int .i64), conform_newest k⟩ :=
  fn_spec (envOk (E := EN k []) tabOk (.nil) codesOk mixedOk (fun _ _ _ _ => trivial) (hmp := mapsOk)) f145_at (fun x => (conform_newest_eq k x).symm)
noncomputable def conform_of : (k : Nat) → (Ty.D (.pair T_api_Frame (.pair T_api_Val T_api_Atom))) → Option (Ty.D .bool) := fun (k : Nat) (x : (T_api_Frame.pair (T_api_Val.pair T_api_Atom)).D) => P.cond (P.ieq x.snd.snd.fst ((0 : Int))) (some (P.ieq x.snd.fst.fst ((0 : Int)))) (P.cond (P.ieq x.snd.snd.fst ((1 : Int))) (some (P.ieq x.snd.fst.fst ((1 : Int)))) (P.cond (P.ieq x.snd.snd.fst ((2 : Int))) (some (P.ieq x.snd.fst.fst ((2 : Int)))) (P.cond (P.ieq x.snd.snd.fst ((3 : Int))) (some (P.and (P.ieq x.snd.fst.fst ((3 : Int))) (P.ieq x.snd.fst.snd x.snd.snd.snd))) (P.cond (P.ieq x.snd.snd.fst ((4 : Int))) (P.cond (P.ieq x.snd.fst.fst ((4 : Int))) (P.bind (conform_newest k (x.fst, x.snd.snd.snd)) fun (r : Int) => P.cond (P.ile ((0 : Int)) r) (P.bind (conform_newest k (x.fst, x.snd.snd.snd)) fun (r : Int) => some (P.ieq r x.snd.fst.snd)) (some false)) (some false)) (P.cond (P.ieq x.snd.snd.fst ((5 : Int))) (P.cond (P.ieq x.snd.fst.fst ((4 : Int))) (P.cond (P.ile ((0 : Int)) x.snd.snd.snd) (P.cond (P.ilt x.snd.snd.snd (P.len x.fst.snd.snd)) (P.cond (P.inb x.snd.snd.snd (P.len x.fst.snd.snd)) (P.bind (P.iter k (fun (y : Int) => P.cond (P.ilt y (P.len (P.get x.fst.snd.snd x.snd.snd.snd []))) (P.cond (P.inb y (P.len (P.get x.fst.snd.snd x.snd.snd.snd []))) (P.cond (P.ieq x.snd.fst.snd (P.get (P.get x.fst.snd.snd x.snd.snd.snd []) y ((0 : Int)))) (some (Sum.inr (Sum.inr (P.ile ((0 : Int)) y)))) (some (Sum.inl (P.wrap IntKind.i64 (P.add y ((1 : Int))))))) none) (some (Sum.inr (Sum.inl PUnit.unit)))) ((0 : Int))) (P.either (fun (z : PUnit) => some (P.ile ((0 : Int)) ((-1 : Int)))) fun (r : Bool) => some r)) none) (some false)) (some false)) (some false)) (some (P.ieq x.snd.snd.fst ((6 : Int)))))))))
theorem conform_of_eq (k : Nat) (x : (Ty.D (.pair T_api_Frame (.pair T_api_Val T_api_Atom)))) : evFn (EN k [(145, ⟨(.pair T_api_Frame (.int .i64)), (.int .i64), conform_newest k⟩)]) 6 Try.f95 [] (.pair T_api_Frame (.pair T_api_Val T_api_Atom)) .bool x = conform_of k x := by kernel_rfl
theorem conform_of_spec (k : Nat) : SpecOk Try.prog GG 95 ⟨(.pair T_api_Frame (.pair T_api_Val T_api_Atom)), .bool, conform_of k⟩ :=
  fn_spec (envOk (E := EN k [(145, ⟨(.pair T_api_Frame (.int .i64)), (.int .i64), conform_newest k⟩)]) tabOk (.cons (conform_newest_spec k) f145_at f145_ok <| .nil) codesOk mixedOk (fun _ _ _ _ => trivial) (hmp := mapsOk)) f95_at (fun x => (conform_of_eq k x).symm)
noncomputable def ref08_Small : (k : Nat) → (Ty.D T_api_State) → Option (Ty.D .bool) := fun (k : Nat) (x : T_api_State.D) => P.cond (P.ilt ((40 : Int)) (P.len x.snd.fst)) (some false) (P.cond (P.ilt ((40 : Int)) (P.len x.snd.snd)) (some false) (P.bind (P.iter k (fun (y : Int) => P.cond (P.ilt y (P.len x.snd.fst)) (P.cond (P.inb y (P.len x.snd.fst)) (P.cond (P.ilt ((40 : Int)) (P.len (P.get x.snd.fst y ((ByteArray.mk #[]), [])).snd)) (some (Sum.inr (Sum.inr false))) (some (Sum.inl (P.wrap IntKind.i64 (P.add y ((1 : Int))))))) none) (some (Sum.inr (Sum.inl PUnit.unit)))) ((0 : Int))) (P.either (fun (z : PUnit) => P.bind (P.iter k (fun (y : Int) => P.cond (P.ilt y (P.len x.snd.snd)) (P.cond (P.inb y (P.len x.snd.snd)) (P.cond (P.ilt ((40 : Int)) (P.len (P.get x.snd.snd y (((0 : Int), (0 : Int)), [], [])).snd.fst)) (some (Sum.inr (Sum.inr false))) (P.cond (P.inb y (P.len x.snd.snd)) (P.cond (P.ilt ((40 : Int)) (P.len (P.get x.snd.snd y (((0 : Int), (0 : Int)), [], [])).snd.snd)) (some (Sum.inr (Sum.inr false))) (P.bind (P.iter k (fun (y_1 : Int) => P.cond (P.inb y (P.len x.snd.snd)) (P.cond (P.ilt y_1 (P.len (P.get x.snd.snd y (((0 : Int), (0 : Int)), [], [])).snd.fst)) (P.cond (P.inb y (P.len x.snd.snd)) (P.cond (P.inb y_1 (P.len (P.get x.snd.snd y (((0 : Int), (0 : Int)), [], [])).snd.fst)) (P.cond (P.ilt ((40 : Int)) (P.len (P.get (P.get x.snd.snd y (((0 : Int), (0 : Int)), [], [])).snd.fst y_1 ((ByteArray.mk #[]), false, [])).snd.snd)) (some (Sum.inr (Sum.inr (Sum.inr (Sum.inr false))))) (some (Sum.inl (P.wrap IntKind.i64 (P.add y_1 ((1 : Int))))))) none) none) (some (Sum.inr (Sum.inl PUnit.unit)))) none) ((0 : Int))) (P.either (fun (z : PUnit) => some (Sum.inl (P.wrap IntKind.i64 (P.add y ((1 : Int)))))) fun (r : Int ⊕ PUnit ⊕ Bool) => some r))) none)) none) (some (Sum.inr (Sum.inl PUnit.unit)))) ((0 : Int))) (P.either (fun (z : PUnit) => some true) fun (r : Bool) => some r)) fun (r : Bool) => some r)))
theorem ref08_Small_eq (k : Nat) (x : (Ty.D T_api_State)) : evFn (EN k []) 6 Try.f39 [(4, ⟨[.var 3 (.d (.int .i64))], [], (some (0, []))⟩), (9, ⟨[.var 4 (.d (.int .i64))], [], (some (2, []))⟩), (14, ⟨[.var 5 (.d (.int .i64))], [], (some (4, []))⟩)] T_api_State .bool x = ref08_Small k x := by kernel_rfl
theorem ref08_Small_spec (k : Nat) : SpecOk Try.prog GG 39 ⟨T_api_State, .bool, ref08_Small k⟩ :=
  fn_spec (envOk (E := EN k []) tabOk (.nil) codesOk mixedOk (fun _ _ _ _ => trivial) (hmp := mapsOk)) f39_at (fun x => (ref08_Small_eq k x).symm)
noncomputable def ref21_Small : (k : Nat) → (Ty.D T_api_Frame) → Option (Ty.D .bool) := fun (k : Nat) (x : T_api_Frame.D) => P.bind (P.iter k (fun (y : Int) => P.cond (P.ilt y (P.len x.snd.snd)) (P.cond (P.inb y (P.len x.snd.snd)) (P.cond (P.ilt ((30 : Int)) (P.len (P.get x.snd.snd y []))) (some (Sum.inr (Sum.inr false))) (some (Sum.inl (P.wrap IntKind.i64 (P.add y ((1 : Int))))))) none) (some (Sum.inr (Sum.inl PUnit.unit)))) ((0 : Int))) (P.either (fun (z : PUnit) => P.cond (P.ile (P.len x.fst) ((40 : Int))) (P.cond (P.ile (P.len x.snd.fst) ((40 : Int))) (some (P.ile (P.len x.snd.snd) ((40 : Int)))) (some false)) (some false)) fun (r : Bool) => some r)
theorem ref21_Small_eq (k : Nat) (x : (Ty.D T_api_Frame)) : evFn (EN k []) 6 Try.f83 [(2, ⟨[.var 3 (.d (.int .i64))], [], (some (0, []))⟩)] T_api_Frame .bool x = ref21_Small k x := by kernel_rfl
theorem ref21_Small_spec (k : Nat) : SpecOk Try.prog GG 83 ⟨T_api_Frame, .bool, ref21_Small k⟩ :=
  fn_spec (envOk (E := EN k []) tabOk (.nil) codesOk mixedOk (fun _ _ _ _ => trivial) (hmp := mapsOk)) f83_at (fun x => (ref21_Small_eq k x).symm)
noncomputable def ref19_Small : (k : Nat) → (Ty.D (.slice T_api_Obj)) → Option (Ty.D .bool) := fun (k : Nat) (x : T_api_Obj.slice.D) => P.bind (P.iter k (fun (y : Int) => P.cond (P.ilt y (P.len x)) (P.cond (P.inb y (P.len x)) (P.cond (P.ilt ((60 : Int)) (P.len (P.get x y ([], (0 : Int), (0 : Int))).fst)) (some (Sum.inr (Sum.inr false))) (some (Sum.inl (P.wrap IntKind.i64 (P.add y ((1 : Int))))))) none) (some (Sum.inr (Sum.inl PUnit.unit)))) ((0 : Int))) (P.either (fun (z : PUnit) => some (P.ile (P.len x) ((100 : Int)))) fun (r : Bool) => some r)
theorem ref19_Small_eq (k : Nat) (x : (Ty.D (.slice T_api_Obj))) : evFn (EN k []) 6 Try.f84 [(2, ⟨[.var 3 (.d (.int .i64))], [], (some (0, []))⟩)] (.slice T_api_Obj) .bool x = ref19_Small k x := by kernel_rfl
theorem ref19_Small_spec (k : Nat) : SpecOk Try.prog GG 84 ⟨(.slice T_api_Obj), .bool, ref19_Small k⟩ :=
  fn_spec (envOk (E := EN k []) tabOk (.nil) codesOk mixedOk (fun _ _ _ _ => trivial) (hmp := mapsOk)) f84_at (fun x => (ref19_Small_eq k x).symm)
noncomputable def law21_small : (k : Nat) → (Ty.D T_proteanlaw21_All) → Option (Ty.D .bool) := fun (k : Nat) (x : T_proteanlaw21_All.D) => P.bind (ref21_Small k x.fst) fun (r : Bool) => P.cond r (P.bind (ref19_Small k x.snd.fst) fun (r : Bool) => P.cond r (P.bind (ref08_Small k x.snd.snd) fun (r : Bool) => some r) (some false)) (some false)
theorem law21_small_eq (k : Nat) (x : (Ty.D T_proteanlaw21_All)) : evFn (EN k [(39, ⟨T_api_State, .bool, ref08_Small k⟩), (83, ⟨T_api_Frame, .bool, ref21_Small k⟩), (84, ⟨(.slice T_api_Obj), .bool, ref19_Small k⟩)]) 6 Try.f26 [] T_proteanlaw21_All .bool x = law21_small k x := by kernel_rfl
theorem law21_small_spec (k : Nat) : SpecOk Try.prog GG 26 ⟨T_proteanlaw21_All, .bool, law21_small k⟩ :=
  fn_spec (envOk (E := EN k [(39, ⟨T_api_State, .bool, ref08_Small k⟩), (83, ⟨T_api_Frame, .bool, ref21_Small k⟩), (84, ⟨(.slice T_api_Obj), .bool, ref19_Small k⟩)]) tabOk (.cons (ref08_Small_spec k) f39_at f39_ok <| .cons (ref21_Small_spec k) f83_at f83_ok <| .cons (ref19_Small_spec k) f84_at f84_ok <| .nil) codesOk mixedOk (fun _ _ _ _ => trivial) (hmp := mapsOk)) f26_at (fun x => (law21_small_eq k x).symm)
noncomputable def conform_Value : (k : Nat) → (Ty.D (.pair T_api_Frame (.pair T_api_Val (.slice T_api_Atom)))) → Option (Ty.D .bool) := fun (k : Nat) (x : (T_api_Frame.pair (T_api_Val.pair T_api_Atom.slice)).D) => P.bind (P.iter k (fun (y : Int) => P.cond (P.ilt y (P.len x.snd.snd)) (P.cond (P.inb y (P.len x.snd.snd)) (P.bind (conform_of k (x.fst, x.snd.fst, P.get x.snd.snd y ((0 : Int), (0 : Int)))) fun (r : Bool) => P.cond r (some (Sum.inr (Sum.inr (P.ile ((0 : Int)) y)))) (some (Sum.inl (P.wrap IntKind.i64 (P.add y ((1 : Int))))))) none) (some (Sum.inr (Sum.inl PUnit.unit)))) ((0 : Int))) (P.either (fun (z : PUnit) => some (P.ile ((0 : Int)) ((-1 : Int)))) fun (r : Bool) => some r)
theorem conform_Value_eq (k : Nat) (x : (Ty.D (.pair T_api_Frame (.pair T_api_Val (.slice T_api_Atom))))) : evFn (EN k [(95, ⟨(.pair T_api_Frame (.pair T_api_Val T_api_Atom)), .bool, conform_of k⟩)]) 6 Try.f30 [] (.pair T_api_Frame (.pair T_api_Val (.slice T_api_Atom))) .bool x = conform_Value k x := by kernel_rfl
theorem conform_Value_spec (k : Nat) : SpecOk Try.prog GG 30 ⟨(.pair T_api_Frame (.pair T_api_Val (.slice T_api_Atom))), .bool, conform_Value k⟩ :=
  fn_spec (envOk (E := EN k [(95, ⟨(.pair T_api_Frame (.pair T_api_Val T_api_Atom)), .bool, conform_of k⟩)]) tabOk (.cons (conform_of_spec k) f95_at f95_ok <| .nil) codesOk mixedOk (fun _ _ _ _ => trivial) (hmp := mapsOk)) f30_at (fun x => (conform_Value_eq k x).symm)
noncomputable def conform_Object : (k : Nat) → (Ty.D (.pair T_api_Frame (.pair (.slice T_api_Obj) (.pair (.int .i64) T_api_Shape)))) → Option (Ty.D .bool) := fun (k : Nat) (x : (T_api_Frame.pair (T_api_Obj.slice.pair ((Ty.int IntKind.i64).pair T_api_Shape))).D) => P.cond (P.ilt x.snd.snd.fst ((0 : Int))) (some false) (P.cond (P.ile (P.len x.snd.fst) x.snd.snd.fst) (some false) (P.cond (P.inb x.snd.snd.fst (P.len x.snd.fst)) (P.bind (conform_Value k (x.fst, (P.get x.snd.fst x.snd.snd.fst ([], (0 : Int), (0 : Int))).snd, x.snd.snd.snd.snd)) fun (r : Bool) => P.cond (P.not r) (some false) (P.cond (P.inb x.snd.snd.fst (P.len x.snd.fst)) (P.bind (P.iter k (fun (y : Int) => P.cond (P.ilt y (P.len (P.get x.snd.fst x.snd.snd.fst ([], (0 : Int), (0 : Int))).fst)) (P.cond (P.inb y (P.len (P.get x.snd.fst x.snd.snd.fst ([], (0 : Int), (0 : Int))).fst)) (P.bind (object_Get k (x.snd.snd.snd, (P.get (P.get x.snd.fst x.snd.snd.fst ([], (0 : Int), (0 : Int))).fst y ((ByteArray.mk #[]), (0 : Int), (0 : Int))).fst)) fun (r : (ByteArray × Bool × List (Int × Int)) × Bool) => P.cond (P.not r.snd) (some (Sum.inr (Sum.inr false))) (P.bind (conform_Value k (x.fst, (P.get (P.get x.snd.fst x.snd.snd.fst ([], (0 : Int), (0 : Int))).fst y ((ByteArray.mk #[]), (0 : Int), (0 : Int))).snd, r.fst.snd.snd)) fun (r : Bool) => P.cond (P.not r) (some (Sum.inr (Sum.inr false))) (some (Sum.inl (P.wrap IntKind.i64 (P.add y ((1 : Int)))))))) none) (some (Sum.inr (Sum.inl PUnit.unit)))) ((0 : Int))) (P.either (fun (z : PUnit) => P.bind (P.iter k (fun (y : Int) => P.cond (P.ilt y (P.len x.snd.snd.snd.fst)) (P.cond (P.inb y (P.len x.snd.snd.snd.fst)) (P.cond (P.get x.snd.snd.snd.fst y ((ByteArray.mk #[]), false, [])).snd.fst (P.cond (P.inb x.snd.snd.fst (P.len x.snd.fst)) (P.bind (P.iter k (fun (y_1 : Int) => P.cond (P.ilt y_1 (P.len (P.get x.snd.fst x.snd.snd.fst ([], (0 : Int), (0 : Int))).fst)) (P.cond (P.inb y_1 (P.len (P.get x.snd.fst x.snd.snd.fst ([], (0 : Int), (0 : Int))).fst)) (P.cond (P.seq (P.get (P.get x.snd.fst x.snd.snd.fst ([], (0 : Int), (0 : Int))).fst y_1 ((ByteArray.mk #[]), (0 : Int), (0 : Int))).fst (P.get x.snd.snd.snd.fst y ((ByteArray.mk #[]), false, [])).fst) (P.map (fun (r : Int ⊕ PUnit ⊕ Bool) => Sum.inr (Sum.inr r)) (P.cond (P.not (P.ile ((0 : Int)) y_1)) (some (Sum.inr (Sum.inr (P.not (P.ile ((0 : Int)) y))))) (some (Sum.inl (P.wrap IntKind.i64 (P.add y ((1 : Int)))))))) (some (Sum.inl (P.wrap IntKind.i64 (P.add y_1 ((1 : Int))))))) none) (some (Sum.inr (Sum.inl PUnit.unit)))) ((0 : Int))) (P.either (fun (z : PUnit) => P.cond (P.not (P.ile ((0 : Int)) ((-1 : Int)))) (some (Sum.inr (Sum.inr (P.not (P.ile ((0 : Int)) y))))) (some (Sum.inl (P.wrap IntKind.i64 (P.add y ((1 : Int))))))) fun (r : Int ⊕ PUnit ⊕ Bool) => some r)) none) (some (Sum.inl (P.wrap IntKind.i64 (P.add y ((1 : Int))))))) none) (some (Sum.inr (Sum.inl PUnit.unit)))) ((0 : Int))) (P.either (fun (z : PUnit) => some (P.not (P.ile ((0 : Int)) ((-1 : Int))))) fun (r : Bool) => some r)) fun (r : Bool) => some r)) none)) none))
theorem conform_Object_eq (k : Nat) (x : (Ty.D (.pair T_api_Frame (.pair (.slice T_api_Obj) (.pair (.int .i64) T_api_Shape))))) : evFn (EN k [(30, ⟨(.pair T_api_Frame (.pair T_api_Val (.slice T_api_Atom))), .bool, conform_Value k⟩), (86, ⟨(.pair T_api_Shape .str), (.pair T_api_Field .bool), object_Get k⟩), (142, ⟨(.slice T_api_Atom), (.slice T_api_Atom), slCloneAtom k⟩)]) 6 Try.f28 [(4, ⟨[.var 39 (.d (.int .i64))], [], (some (0, []))⟩)] (.pair T_api_Frame (.pair (.slice T_api_Obj) (.pair (.int .i64) T_api_Shape))) .bool x = conform_Object k x := by kernel_rfl
theorem conform_Object_spec (k : Nat) : SpecOk Try.prog GG 28 ⟨(.pair T_api_Frame (.pair (.slice T_api_Obj) (.pair (.int .i64) T_api_Shape))), .bool, conform_Object k⟩ :=
  fn_spec (envOk (E := EN k [(30, ⟨(.pair T_api_Frame (.pair T_api_Val (.slice T_api_Atom))), .bool, conform_Value k⟩), (86, ⟨(.pair T_api_Shape .str), (.pair T_api_Field .bool), object_Get k⟩), (142, ⟨(.slice T_api_Atom), (.slice T_api_Atom), slCloneAtom k⟩)]) tabOk (.cons (conform_Value_spec k) f30_at f30_ok <| .cons (object_Get_spec k) f86_at f86_ok <| .cons (slCloneAtom_spec k) f142_at f142_ok <| .nil) codesOk mixedOk (fun _ _ _ _ => trivial) (hmp := mapsOk)) f28_at (fun x => (conform_Object_eq k x).symm)
noncomputable def conform_variable : (k : Nat) → (Ty.D (.pair T_api_Frame .str)) → Option (Ty.D T_api_Val) := fun (k : Nat) (x : (T_api_Frame.pair Ty.str).D) => P.bind (P.iter k (fun (y : Int) => P.cond (P.ilt y (P.len x.fst.fst)) (P.cond (P.inb y (P.len x.fst.fst)) (P.cond (P.seq (P.get x.fst.fst y ((ByteArray.mk #[]), (0 : Int), (0 : Int))).fst x.snd) (P.map (fun (r : Int × Int) => Sum.inr (Sum.inr r)) (P.cond (P.ilt y ((0 : Int))) (some ((0 : Int), (0 : Int))) (P.cond (P.inb y (P.len x.fst.fst)) (some (P.get x.fst.fst y ((ByteArray.mk #[]), (0 : Int), (0 : Int))).snd) none))) (some (Sum.inl (P.wrap IntKind.i64 (P.add y ((1 : Int))))))) none) (some (Sum.inr (Sum.inl PUnit.unit)))) ((0 : Int))) (P.either (fun (z : PUnit) => P.cond (P.ilt ((-1 : Int)) ((0 : Int))) (some ((0 : Int), (0 : Int))) (P.cond (P.inb ((-1 : Int)) (P.len x.fst.fst)) (some (P.get x.fst.fst ((-1 : Int)) ((ByteArray.mk #[]), (0 : Int), (0 : Int))).snd) none)) fun (r : Int × Int) => some r)
theorem conform_variable_eq (k : Nat) (x : (Ty.D (.pair T_api_Frame .str))) : evFn (EN k []) 6 Try.f96 [] (.pair T_api_Frame .str) T_api_Val x = conform_variable k x := by kernel_rfl
theorem conform_variable_spec (k : Nat) : SpecOk Try.prog GG 96 ⟨(.pair T_api_Frame .str), T_api_Val, conform_variable k⟩ :=
  fn_spec (envOk (E := EN k []) tabOk (.nil) codesOk mixedOk (fun _ _ _ _ => trivial) (hmp := mapsOk)) f96_at (fun x => (conform_variable_eq k x).symm)
noncomputable def state_Var : (k : Nat) → (Ty.D (.pair T_api_State .str)) → Option (Ty.D (.slice T_api_Atom)) := fun (k : Nat) (x : (T_api_State.pair Ty.str).D) => P.bind (P.iter k (fun (y : Int) => P.cond (P.ilt y (P.len x.fst.snd.fst)) (P.cond (P.inb y (P.len x.fst.snd.fst)) (P.cond (P.seq (P.get x.fst.snd.fst y ((ByteArray.mk #[]), [])).fst x.snd) (P.map (fun (r : List (Int × Int)) => Sum.inr (Sum.inr r)) (P.cond (P.ile ((0 : Int)) y) (P.cond (P.inb y (P.len x.fst.snd.fst)) (P.bind (slCloneAtom k (P.get x.fst.snd.fst y ((ByteArray.mk #[]), [])).snd) fun (r : List (Int × Int)) => some r) none) (some [((0 : Int), (0 : Int))]))) (some (Sum.inl (P.wrap IntKind.i64 (P.add y ((1 : Int))))))) none) (some (Sum.inr (Sum.inl PUnit.unit)))) ((0 : Int))) (P.either (fun (z : PUnit) => P.cond (P.ile ((0 : Int)) ((-1 : Int))) (P.cond (P.inb ((-1 : Int)) (P.len x.fst.snd.fst)) (P.bind (slCloneAtom k (P.get x.fst.snd.fst ((-1 : Int)) ((ByteArray.mk #[]), [])).snd) fun (r : List (Int × Int)) => some r) none) (some [((0 : Int), (0 : Int))])) fun (r : List (Int × Int)) => some r)
theorem state_Var_eq (k : Nat) (x : (Ty.D (.pair T_api_State .str))) : evFn (EN k [(142, ⟨(.slice T_api_Atom), (.slice T_api_Atom), slCloneAtom k⟩)]) 6 Try.f97 [] (.pair T_api_State .str) (.slice T_api_Atom) x = state_Var k x := by kernel_rfl
theorem state_Var_spec (k : Nat) : SpecOk Try.prog GG 97 ⟨(.pair T_api_State .str), (.slice T_api_Atom), state_Var k⟩ :=
  fn_spec (envOk (E := EN k [(142, ⟨(.slice T_api_Atom), (.slice T_api_Atom), slCloneAtom k⟩)]) tabOk (.cons (slCloneAtom_spec k) f142_at f142_ok <| .nil) codesOk mixedOk (fun _ _ _ _ => trivial) (hmp := mapsOk)) f97_at (fun x => (state_Var_eq k x).symm)
noncomputable def conform_loc : (k : Nat) → (Ty.D (.pair T_api_Frame (.pair (.slice T_api_Obj) (.pair (.int .i64) (.pair T_api_State T_api_Atom))))) → Option (Ty.D .bool) := fun (k : Nat) (x : (T_api_Frame.pair (T_api_Obj.slice.pair ((Ty.int IntKind.i64).pair (T_api_State.pair T_api_Atom)))).D) => P.bind (state_Loc k (x.snd.snd.snd.fst, x.snd.snd.snd.snd)) fun (r : (List (ByteArray × Bool × List (Int × Int)) × List (Int × Int)) × Bool) => P.cond r.snd (P.bind (conform_Object k (x.fst, x.snd.fst, x.snd.snd.fst, r.fst)) fun (r : Bool) => some r) (some false)
theorem conform_loc_eq (k : Nat) (x : (Ty.D (.pair T_api_Frame (.pair (.slice T_api_Obj) (.pair (.int .i64) (.pair T_api_State T_api_Atom)))))) : evFn (EN k [(28, ⟨(.pair T_api_Frame (.pair (.slice T_api_Obj) (.pair (.int .i64) T_api_Shape))), .bool, conform_Object k⟩), (148, ⟨(.pair T_api_State T_api_Atom), (.pair T_api_Shape .bool), state_Loc k⟩)]) 6 Try.f98 [] (.pair T_api_Frame (.pair (.slice T_api_Obj) (.pair (.int .i64) (.pair T_api_State T_api_Atom)))) .bool x = conform_loc k x := by kernel_rfl
theorem conform_loc_spec (k : Nat) : SpecOk Try.prog GG 98 ⟨(.pair T_api_Frame (.pair (.slice T_api_Obj) (.pair (.int .i64) (.pair T_api_State T_api_Atom)))), .bool, conform_loc k⟩ :=
  fn_spec (envOk (E := EN k [(28, ⟨(.pair T_api_Frame (.pair (.slice T_api_Obj) (.pair (.int .i64) T_api_Shape))), .bool, conform_Object k⟩), (148, ⟨(.pair T_api_State T_api_Atom), (.pair T_api_Shape .bool), state_Loc k⟩)]) tabOk (.cons (conform_Object_spec k) f28_at f28_ok <| .cons (state_Loc_spec k) f148_at f148_ok <| .nil) codesOk mixedOk (fun _ _ _ _ => trivial) (hmp := mapsOk)) f98_at (fun x => (conform_loc_eq k x).symm)
noncomputable def conform_State : (k : Nat) → (Ty.D (.pair T_api_Frame (.pair (.slice T_api_Obj) T_api_State))) → Option (Ty.D .bool) := fun (k : Nat) (x : (T_api_Frame.pair (T_api_Obj.slice.pair T_api_State)).D) => P.cond x.snd.snd.fst (some false) (P.bind (P.iter k (fun (y : Int) => P.cond (P.ilt y (P.len x.fst.fst)) (P.cond (P.inb y (P.len x.fst.fst)) (P.bind (conform_variable k (x.fst, (P.get x.fst.fst y ((ByteArray.mk #[]), (0 : Int), (0 : Int))).fst)) fun (r : Int × Int) => P.bind (state_Var k (x.snd.snd, (P.get x.fst.fst y ((ByteArray.mk #[]), (0 : Int), (0 : Int))).fst)) fun (r_1 : List (Int × Int)) => P.bind (conform_Value k (x.fst, r, r_1)) fun (r : Bool) => P.cond (P.not r) (some (Sum.inr (Sum.inr false))) (some (Sum.inl (P.wrap IntKind.i64 (P.add y ((1 : Int))))))) none) (some (Sum.inr (Sum.inl PUnit.unit)))) ((0 : Int))) (P.either (fun (z : PUnit) => P.bind (P.iter k (fun (y : Int) => P.cond (P.ilt y (P.len x.snd.snd.snd.fst)) (P.cond (P.inb y (P.len x.snd.snd.snd.fst)) (P.bind (conform_variable k (x.fst, (P.get x.snd.snd.snd.fst y ((ByteArray.mk #[]), [])).fst)) fun (r : Int × Int) => P.bind (state_Var k (x.snd.snd, (P.get x.snd.snd.snd.fst y ((ByteArray.mk #[]), [])).fst)) fun (r_1 : List (Int × Int)) => P.bind (conform_Value k (x.fst, r, r_1)) fun (r : Bool) => P.cond (P.not r) (some (Sum.inr (Sum.inr false))) (some (Sum.inl (P.wrap IntKind.i64 (P.add y ((1 : Int))))))) none) (some (Sum.inr (Sum.inl PUnit.unit)))) ((0 : Int))) (P.either (fun (z : PUnit) => P.bind (P.iter k (fun (y : Int) => P.cond (P.ilt y (P.len x.fst.snd.fst)) (P.cond (P.inb y (P.len x.fst.snd.fst)) (P.cond (P.not (P.ieq (P.get x.fst.snd.fst y ((0 : Int))) ((-1 : Int)))) (P.bind (conform_loc k (x.fst, x.snd.fst, P.get x.fst.snd.fst y ((0 : Int)), x.snd.snd, (4 : Int), y)) fun (r : Bool) => P.cond (P.not r) (some (Sum.inr (Sum.inr false))) (some (Sum.inl (P.wrap IntKind.i64 (P.add y ((1 : Int))))))) (some (Sum.inl (P.wrap IntKind.i64 (P.add y ((1 : Int))))))) none) (some (Sum.inr (Sum.inl PUnit.unit)))) ((0 : Int))) (P.either (fun (z : PUnit) => P.bind (P.iter k (fun (y : Int) => P.cond (P.ilt y (P.len x.fst.snd.snd)) (P.cond (P.inb y (P.len x.fst.snd.snd)) (P.bind (P.iter k (fun (y_1 : Int) => P.cond (P.ilt y_1 (P.len (P.get x.fst.snd.snd y []))) (P.cond (P.inb y_1 (P.len (P.get x.fst.snd.snd y []))) (P.bind (conform_loc k (x.fst, x.snd.fst, P.get (P.get x.fst.snd.snd y []) y_1 ((0 : Int)), x.snd.snd, (5 : Int), y)) fun (r : Bool) => P.cond (P.not r) (some (Sum.inr (Sum.inr (Sum.inr (Sum.inr false))))) (some (Sum.inl (P.wrap IntKind.i64 (P.add y_1 ((1 : Int))))))) none) (some (Sum.inr (Sum.inl PUnit.unit)))) ((0 : Int))) (P.either (fun (z : PUnit) => some (Sum.inl (P.wrap IntKind.i64 (P.add y ((1 : Int)))))) fun (r : Int ⊕ PUnit ⊕ Bool) => some r)) none) (some (Sum.inr (Sum.inl PUnit.unit)))) ((0 : Int))) (P.either (fun (z : PUnit) => some true) fun (r : Bool) => some r)) fun (r : Bool) => some r)) fun (r : Bool) => some r)) fun (r : Bool) => some r))
theorem conform_State_eq (k : Nat) (x : (Ty.D (.pair T_api_Frame (.pair (.slice T_api_Obj) T_api_State)))) : evFn (EN k [(30, ⟨(.pair T_api_Frame (.pair T_api_Val (.slice T_api_Atom))), .bool, conform_Value k⟩), (96, ⟨(.pair T_api_Frame .str), T_api_Val, conform_variable k⟩), (97, ⟨(.pair T_api_State .str), (.slice T_api_Atom), state_Var k⟩), (98, ⟨(.pair T_api_Frame (.pair (.slice T_api_Obj) (.pair (.int .i64) (.pair T_api_State T_api_Atom)))), .bool, conform_loc k⟩)]) 6 Try.f32 [(4, ⟨[.var 22 (.d (.int .i64))], [], (some (0, []))⟩), (10, ⟨[.var 41 (.d (.int .i64))], [], (some (2, []))⟩), (16, ⟨[.var 60 (.d (.int .i64))], [], (some (4, []))⟩), (22, ⟨[.var 81 (.d (.int .i64))], [], (some (6, []))⟩), (25, ⟨[.var 88 (.d (.int .i64))], [], (some (8, []))⟩)] (.pair T_api_Frame (.pair (.slice T_api_Obj) T_api_State)) .bool x = conform_State k x := by kernel_rfl
theorem conform_State_spec (k : Nat) : SpecOk Try.prog GG 32 ⟨(.pair T_api_Frame (.pair (.slice T_api_Obj) T_api_State)), .bool, conform_State k⟩ :=
  fn_spec (envOk (E := EN k [(30, ⟨(.pair T_api_Frame (.pair T_api_Val (.slice T_api_Atom))), .bool, conform_Value k⟩), (96, ⟨(.pair T_api_Frame .str), T_api_Val, conform_variable k⟩), (97, ⟨(.pair T_api_State .str), (.slice T_api_Atom), state_Var k⟩), (98, ⟨(.pair T_api_Frame (.pair (.slice T_api_Obj) (.pair (.int .i64) (.pair T_api_State T_api_Atom)))), .bool, conform_loc k⟩)]) tabOk (.cons (conform_Value_spec k) f30_at f30_ok <| .cons (conform_variable_spec k) f96_at f96_ok <| .cons (state_Var_spec k) f97_at f97_ok <| .cons (conform_loc_spec k) f98_at f98_ok <| .nil) codesOk mixedOk (fun _ _ _ _ => trivial) (hmp := mapsOk)) f32_at (fun x => (conform_State_eq k x).symm)
noncomputable def store_Right : (k : Nat) → (Ty.D (.pair (.slice T_api_Obj) T_api_Val)) → Option (Ty.D .bool) := fun (k : Nat) (x : (T_api_Obj.slice.pair T_api_Val).D) => P.cond (P.ieq x.snd.fst ((0 : Int))) (some (P.ieq x.snd.snd ((0 : Int)))) (P.cond (P.ieq x.snd.fst ((1 : Int))) (P.cond (P.ieq x.snd.snd ((0 : Int))) (some true) (some (P.ieq x.snd.snd ((1 : Int))))) (P.cond (P.ieq x.snd.fst ((2 : Int))) (some true) (P.cond (P.ieq x.snd.fst ((3 : Int))) (some (P.ile ((0 : Int)) x.snd.snd)) (P.cond (P.ieq x.snd.fst ((4 : Int))) (P.cond (P.ile ((0 : Int)) x.snd.snd) (some (P.ilt x.snd.snd (P.len x.fst))) (some false)) (some false)))))
theorem store_Right_eq (k : Nat) (x : (Ty.D (.pair (.slice T_api_Obj) T_api_Val))) : evFn (EN k []) 6 Try.f77 [] (.pair (.slice T_api_Obj) T_api_Val) .bool x = store_Right k x := by kernel_rfl
theorem store_Right_spec (k : Nat) : SpecOk Try.prog GG 77 ⟨(.pair (.slice T_api_Obj) T_api_Val), .bool, store_Right k⟩ :=
  fn_spec (envOk (E := EN k []) tabOk (.nil) codesOk mixedOk (fun _ _ _ _ => trivial) (hmp := mapsOk)) f77_at (fun x => (store_Right_eq k x).symm)
noncomputable def store_May : (k : Nat) → (Ty.D (.slice T_api_Obj)) → Option (Ty.D .bool) := fun (k : Nat) (x : T_api_Obj.slice.D) => P.bind (P.iter k (fun (y : Int) => P.cond (P.ilt y (P.len x)) (P.cond (P.inb y (P.len x)) (P.bind (P.iter k (fun (y_1 : Int) => P.cond (P.ilt y_1 (P.len (P.get x y ([], (0 : Int), (0 : Int))).fst)) (P.cond (P.inb y_1 (P.len (P.get x y ([], (0 : Int), (0 : Int))).fst)) (P.bind (store_Right k (x, (P.get (P.get x y ([], (0 : Int), (0 : Int))).fst y_1 ((ByteArray.mk #[]), (0 : Int), (0 : Int))).snd)) fun (r : Bool) => P.cond (P.not r) (some (Sum.inr (Sum.inr (Sum.inr (Sum.inr false))))) (P.cond (P.ilt ((0 : Int)) y_1) (P.cond (P.inb (P.wrap IntKind.i64 (P.sub y_1 ((1 : Int)))) (P.len (P.get x y ([], (0 : Int), (0 : Int))).fst)) (P.cond (P.not (P.slt (P.get (P.get x y ([], (0 : Int), (0 : Int))).fst (P.wrap IntKind.i64 (P.sub y_1 ((1 : Int)))) ((ByteArray.mk #[]), (0 : Int), (0 : Int))).fst (P.get (P.get x y ([], (0 : Int), (0 : Int))).fst y_1 ((ByteArray.mk #[]), (0 : Int), (0 : Int))).fst)) (some (Sum.inr (Sum.inr (Sum.inr (Sum.inr false))))) (some (Sum.inl (P.wrap IntKind.i64 (P.add y_1 ((1 : Int))))))) none) (some (Sum.inl (P.wrap IntKind.i64 (P.add y_1 ((1 : Int)))))))) none) (some (Sum.inr (Sum.inl PUnit.unit)))) ((0 : Int))) (P.either (fun (z : PUnit) => P.cond (P.not (P.and (P.ieq (P.get x y ([], (0 : Int), (0 : Int))).snd.fst ((0 : Int))) (P.ieq (P.get x y ([], (0 : Int), (0 : Int))).snd.snd ((0 : Int))))) (P.cond (P.not (P.ieq (P.get x y ([], (0 : Int), (0 : Int))).snd.fst ((4 : Int)))) (some (Sum.inr (Sum.inr false))) (P.cond (P.ilt (P.get x y ([], (0 : Int), (0 : Int))).snd.snd ((0 : Int))) (some (Sum.inr (Sum.inr false))) (P.cond (P.ile y (P.get x y ([], (0 : Int), (0 : Int))).snd.snd) (some (Sum.inr (Sum.inr false))) (some (Sum.inl (P.wrap IntKind.i64 (P.add y ((1 : Int))))))))) (some (Sum.inl (P.wrap IntKind.i64 (P.add y ((1 : Int))))))) fun (r : Int ⊕ PUnit ⊕ Bool) => some r)) none) (some (Sum.inr (Sum.inl PUnit.unit)))) ((0 : Int))) (P.either (fun (z : PUnit) => some true) fun (r : Bool) => some r)
theorem store_May_eq (k : Nat) (x : (Ty.D (.slice T_api_Obj))) : evFn (EN k [(77, ⟨(.pair (.slice T_api_Obj) T_api_Val), .bool, store_Right k⟩)]) 6 Try.f76 [(2, ⟨[.var 9 (.d (.int .i64))], [], (some (0, []))⟩), (5, ⟨[.var 17 (.d (.int .i64))], [], (some (2, []))⟩)] (.slice T_api_Obj) .bool x = store_May k x := by kernel_rfl
theorem store_May_spec (k : Nat) : SpecOk Try.prog GG 76 ⟨(.slice T_api_Obj), .bool, store_May k⟩ :=
  fn_spec (envOk (E := EN k [(77, ⟨(.pair (.slice T_api_Obj) T_api_Val), .bool, store_Right k⟩)]) tabOk (.cons (store_Right_spec k) f77_at f77_ok <| .nil) codesOk mixedOk (fun _ _ _ _ => trivial) (hmp := mapsOk)) f76_at (fun x => (store_May_eq k x).symm)
noncomputable def conform_May : (k : Nat) → (Ty.D (.pair T_api_Frame (.slice T_api_Obj))) → Option (Ty.D .bool) := fun (k : Nat) (x : (T_api_Frame.pair T_api_Obj.slice).D) => P.bind (store_May k x.snd) fun (r : Bool) => P.cond (P.not r) (some false) (P.cond (P.not (P.ieq (P.len x.fst.snd.fst) (P.len x.fst.snd.snd))) (some false) (P.bind (P.iter k (fun (y : Int) => P.cond (P.ilt y (P.len x.fst.fst)) (P.cond (P.inb y (P.len x.fst.fst)) (P.bind (store_Right k (x.snd, (P.get x.fst.fst y ((ByteArray.mk #[]), (0 : Int), (0 : Int))).snd)) fun (r : Bool) => P.cond (P.not r) (some (Sum.inr (Sum.inr false))) (P.cond (P.ilt ((0 : Int)) y) (P.cond (P.inb (P.wrap IntKind.i64 (P.sub y ((1 : Int)))) (P.len x.fst.fst)) (P.cond (P.not (P.slt (P.get x.fst.fst (P.wrap IntKind.i64 (P.sub y ((1 : Int)))) ((ByteArray.mk #[]), (0 : Int), (0 : Int))).fst (P.get x.fst.fst y ((ByteArray.mk #[]), (0 : Int), (0 : Int))).fst)) (some (Sum.inr (Sum.inr false))) (some (Sum.inl (P.wrap IntKind.i64 (P.add y ((1 : Int))))))) none) (some (Sum.inl (P.wrap IntKind.i64 (P.add y ((1 : Int)))))))) none) (some (Sum.inr (Sum.inl PUnit.unit)))) ((0 : Int))) (P.either (fun (z : PUnit) => P.bind (slices_Clones_int k x.fst.snd.snd) fun (r : List (List Int)) => P.cond (P.room (P.add (P.len r) (P.len [x.fst.snd.fst])) 24) (P.bind (P.iter k (fun (y : Int × Int) => P.cond (P.ilt y.snd (P.len (P.app r [x.fst.snd.fst]))) (P.cond (P.inb y.snd (P.len (P.app r [x.fst.snd.fst]))) (P.cond (P.ilt (P.wrap IntKind.i64 (P.add y.fst (P.len (P.get (P.app r [x.fst.snd.fst]) y.snd [])))) ((0 : Int))) none (some (Sum.inl (P.wrap IntKind.i64 (P.add y.fst (P.len (P.get (P.app r [x.fst.snd.fst]) y.snd []))), P.wrap IntKind.i64 (P.add y.snd ((1 : Int))))))) none) (some (Sum.inr (Sum.inl y.fst)))) ((0 : Int), (0 : Int))) (P.either (fun (z : Int) => P.cond (P.ilt z ((0 : Int))) none (P.cond (P.ilt ((0 : Int)) (P.wrap IntKind.i64 (P.sub z (P.wrap IntKind.i64 (P.sub ((0 : Int)) ((0 : Int))))))) (P.cond (P.cut ((0 : Int)) ((0 : Int)) ((0 : Int))) (P.cond (P.ilt ((0 : Int)) (P.wrap IntKind.i64 (P.sub z (P.wrap IntKind.i64 (P.sub ((0 : Int)) ((0 : Int))))))) (P.cond (P.room (P.wrap IntKind.i64 (P.sub z (P.wrap IntKind.i64 (P.sub ((0 : Int)) ((0 : Int)))))) 8) (P.cond (P.cut ((0 : Int)) ((0 : Int)) (P.len (P.rep (P.wrap IntKind.i64 (P.sub z (P.wrap IntKind.i64 (P.sub ((0 : Int)) ((0 : Int)))))) ((0 : Int))))) (P.bind (P.iter k (fun (y : List Int × Int) => P.cond (P.ilt y.snd (P.len (P.app r [x.fst.snd.fst]))) (P.cond (P.inb y.snd (P.len (P.app r [x.fst.snd.fst]))) (P.cond (P.room (P.add (P.len y.fst) (P.len (P.get (P.app r [x.fst.snd.fst]) y.snd []))) 8) (some (Sum.inl (P.app y.fst (P.get (P.app r [x.fst.snd.fst]) y.snd []), P.wrap IntKind.i64 (P.add y.snd ((1 : Int)))))) none) none) (some (Sum.inr (Sum.inl y.fst)))) (P.sub_ (P.rep (P.wrap IntKind.i64 (P.sub z (P.wrap IntKind.i64 (P.sub ((0 : Int)) ((0 : Int)))))) ((0 : Int))) ((0 : Int)) ((0 : Int)), (0 : Int))) (P.either (fun (z : List Int) => P.bind (P.iter k (fun (y : Int × List (Int × Bool)) => P.cond (P.ilt y.fst (P.len z)) (P.cond (P.inb y.fst (P.len z)) (P.cond (P.ieq (P.get z y.fst ((0 : Int))) ((-1 : Int))) (some (Sum.inl (P.wrap IntKind.i64 (P.add y.fst ((1 : Int))), y.snd))) (P.cond (P.ilt (P.get z y.fst ((0 : Int))) ((0 : Int))) (some (Sum.inr (Sum.inr false))) (P.cond (P.ile (P.len x.snd) (P.get z y.fst ((0 : Int)))) (some (Sum.inr (Sum.inr false))) (P.cond (P.mval (fun (x y : Int) => P.ieq x y) y.snd (P.get z y.fst ((0 : Int))) false) (some (Sum.inr (Sum.inr false))) (some (Sum.inl (P.wrap IntKind.i64 (P.add y.fst ((1 : Int))), P.mput (fun (x y : Int) => P.ieq x y) y.snd (P.get z y.fst ((0 : Int))) true))))))) none) (some (Sum.inr (Sum.inl y.snd)))) ((0 : Int), [])) (P.either (fun (z : List (Int × Bool)) => P.bind (P.iter k (fun (y : Int × Int) => P.cond (P.ilt y.snd (P.len x.fst.snd.snd)) (P.cond (P.inb y.snd (P.len x.fst.snd.snd)) (P.cond (P.ilt (P.wrap IntKind.i64 (P.add y.fst (P.len (P.get x.fst.snd.snd y.snd [])))) ((0 : Int))) none (some (Sum.inl (P.wrap IntKind.i64 (P.add y.fst (P.len (P.get x.fst.snd.snd y.snd []))), P.wrap IntKind.i64 (P.add y.snd ((1 : Int))))))) none) (some (Sum.inr (Sum.inl y.fst)))) ((0 : Int), (0 : Int))) (P.either (fun (z : Int) => P.cond (P.ilt z ((0 : Int))) none (P.cond (P.ilt ((0 : Int)) (P.wrap IntKind.i64 (P.sub z (P.wrap IntKind.i64 (P.sub ((0 : Int)) ((0 : Int))))))) (P.cond (P.cut ((0 : Int)) ((0 : Int)) ((0 : Int))) (P.cond (P.ilt ((0 : Int)) (P.wrap IntKind.i64 (P.sub z (P.wrap IntKind.i64 (P.sub ((0 : Int)) ((0 : Int))))))) (P.cond (P.room (P.wrap IntKind.i64 (P.sub z (P.wrap IntKind.i64 (P.sub ((0 : Int)) ((0 : Int)))))) 8) (P.cond (P.cut ((0 : Int)) ((0 : Int)) (P.len (P.rep (P.wrap IntKind.i64 (P.sub z (P.wrap IntKind.i64 (P.sub ((0 : Int)) ((0 : Int)))))) ((0 : Int))))) (P.bind (P.iter k (fun (y : List Int × Int) => P.cond (P.ilt y.snd (P.len x.fst.snd.snd)) (P.cond (P.inb y.snd (P.len x.fst.snd.snd)) (P.cond (P.room (P.add (P.len y.fst) (P.len (P.get x.fst.snd.snd y.snd []))) 8) (some (Sum.inl (P.app y.fst (P.get x.fst.snd.snd y.snd []), P.wrap IntKind.i64 (P.add y.snd ((1 : Int)))))) none) none) (some (Sum.inr (Sum.inl y.fst)))) (P.sub_ (P.rep (P.wrap IntKind.i64 (P.sub z (P.wrap IntKind.i64 (P.sub ((0 : Int)) ((0 : Int)))))) ((0 : Int))) ((0 : Int)) ((0 : Int)), (0 : Int))) (P.either (fun (z : List Int) => P.bind (P.iter k (fun (y : Int) => P.cond (P.ilt y (P.len z)) (P.cond (P.inb y (P.len z)) (P.cond (P.ieq ((-1 : Int)) (P.get z y ((0 : Int)))) (some (Sum.inr (Sum.inr (P.not (P.ile ((0 : Int)) y))))) (some (Sum.inl (P.wrap IntKind.i64 (P.add y ((1 : Int))))))) none) (some (Sum.inr (Sum.inl PUnit.unit)))) ((0 : Int))) (P.either (fun (z : PUnit) => some (P.not (P.ile ((0 : Int)) ((-1 : Int))))) fun (r : Bool) => some r)) fun (r : Bool) => some r)) none) none) none) none) (P.bind (P.iter k (fun (y : List Int × Int) => P.cond (P.ilt y.snd (P.len x.fst.snd.snd)) (P.cond (P.inb y.snd (P.len x.fst.snd.snd)) (P.cond (P.room (P.add (P.len y.fst) (P.len (P.get x.fst.snd.snd y.snd []))) 8) (some (Sum.inl (P.app y.fst (P.get x.fst.snd.snd y.snd []), P.wrap IntKind.i64 (P.add y.snd ((1 : Int)))))) none) none) (some (Sum.inr (Sum.inl y.fst)))) ([], (0 : Int))) (P.either (fun (z : List Int) => P.bind (P.iter k (fun (y : Int) => P.cond (P.ilt y (P.len z)) (P.cond (P.inb y (P.len z)) (P.cond (P.ieq ((-1 : Int)) (P.get z y ((0 : Int)))) (some (Sum.inr (Sum.inr (P.not (P.ile ((0 : Int)) y))))) (some (Sum.inl (P.wrap IntKind.i64 (P.add y ((1 : Int))))))) none) (some (Sum.inr (Sum.inl PUnit.unit)))) ((0 : Int))) (P.either (fun (z : PUnit) => some (P.not (P.ile ((0 : Int)) ((-1 : Int))))) fun (r : Bool) => some r)) fun (r : Bool) => some r)))) fun (r : Bool) => some r)) fun (r : Bool) => some r)) fun (r : Bool) => some r)) none) none) none) none) (P.bind (P.iter k (fun (y : List Int × Int) => P.cond (P.ilt y.snd (P.len (P.app r [x.fst.snd.fst]))) (P.cond (P.inb y.snd (P.len (P.app r [x.fst.snd.fst]))) (P.cond (P.room (P.add (P.len y.fst) (P.len (P.get (P.app r [x.fst.snd.fst]) y.snd []))) 8) (some (Sum.inl (P.app y.fst (P.get (P.app r [x.fst.snd.fst]) y.snd []), P.wrap IntKind.i64 (P.add y.snd ((1 : Int)))))) none) none) (some (Sum.inr (Sum.inl y.fst)))) ([], (0 : Int))) (P.either (fun (z : List Int) => P.bind (P.iter k (fun (y : Int × List (Int × Bool)) => P.cond (P.ilt y.fst (P.len z)) (P.cond (P.inb y.fst (P.len z)) (P.cond (P.ieq (P.get z y.fst ((0 : Int))) ((-1 : Int))) (some (Sum.inl (P.wrap IntKind.i64 (P.add y.fst ((1 : Int))), y.snd))) (P.cond (P.ilt (P.get z y.fst ((0 : Int))) ((0 : Int))) (some (Sum.inr (Sum.inr false))) (P.cond (P.ile (P.len x.snd) (P.get z y.fst ((0 : Int)))) (some (Sum.inr (Sum.inr false))) (P.cond (P.mval (fun (x y : Int) => P.ieq x y) y.snd (P.get z y.fst ((0 : Int))) false) (some (Sum.inr (Sum.inr false))) (some (Sum.inl (P.wrap IntKind.i64 (P.add y.fst ((1 : Int))), P.mput (fun (x y : Int) => P.ieq x y) y.snd (P.get z y.fst ((0 : Int))) true))))))) none) (some (Sum.inr (Sum.inl y.snd)))) ((0 : Int), [])) (P.either (fun (z : List (Int × Bool)) => P.bind (P.iter k (fun (y : Int × Int) => P.cond (P.ilt y.snd (P.len x.fst.snd.snd)) (P.cond (P.inb y.snd (P.len x.fst.snd.snd)) (P.cond (P.ilt (P.wrap IntKind.i64 (P.add y.fst (P.len (P.get x.fst.snd.snd y.snd [])))) ((0 : Int))) none (some (Sum.inl (P.wrap IntKind.i64 (P.add y.fst (P.len (P.get x.fst.snd.snd y.snd []))), P.wrap IntKind.i64 (P.add y.snd ((1 : Int))))))) none) (some (Sum.inr (Sum.inl y.fst)))) ((0 : Int), (0 : Int))) (P.either (fun (z : Int) => P.cond (P.ilt z ((0 : Int))) none (P.cond (P.ilt ((0 : Int)) (P.wrap IntKind.i64 (P.sub z (P.wrap IntKind.i64 (P.sub ((0 : Int)) ((0 : Int))))))) (P.cond (P.cut ((0 : Int)) ((0 : Int)) ((0 : Int))) (P.cond (P.ilt ((0 : Int)) (P.wrap IntKind.i64 (P.sub z (P.wrap IntKind.i64 (P.sub ((0 : Int)) ((0 : Int))))))) (P.cond (P.room (P.wrap IntKind.i64 (P.sub z (P.wrap IntKind.i64 (P.sub ((0 : Int)) ((0 : Int)))))) 8) (P.cond (P.cut ((0 : Int)) ((0 : Int)) (P.len (P.rep (P.wrap IntKind.i64 (P.sub z (P.wrap IntKind.i64 (P.sub ((0 : Int)) ((0 : Int)))))) ((0 : Int))))) (P.bind (P.iter k (fun (y : List Int × Int) => P.cond (P.ilt y.snd (P.len x.fst.snd.snd)) (P.cond (P.inb y.snd (P.len x.fst.snd.snd)) (P.cond (P.room (P.add (P.len y.fst) (P.len (P.get x.fst.snd.snd y.snd []))) 8) (some (Sum.inl (P.app y.fst (P.get x.fst.snd.snd y.snd []), P.wrap IntKind.i64 (P.add y.snd ((1 : Int)))))) none) none) (some (Sum.inr (Sum.inl y.fst)))) (P.sub_ (P.rep (P.wrap IntKind.i64 (P.sub z (P.wrap IntKind.i64 (P.sub ((0 : Int)) ((0 : Int)))))) ((0 : Int))) ((0 : Int)) ((0 : Int)), (0 : Int))) (P.either (fun (z : List Int) => P.bind (P.iter k (fun (y : Int) => P.cond (P.ilt y (P.len z)) (P.cond (P.inb y (P.len z)) (P.cond (P.ieq ((-1 : Int)) (P.get z y ((0 : Int)))) (some (Sum.inr (Sum.inr (P.not (P.ile ((0 : Int)) y))))) (some (Sum.inl (P.wrap IntKind.i64 (P.add y ((1 : Int))))))) none) (some (Sum.inr (Sum.inl PUnit.unit)))) ((0 : Int))) (P.either (fun (z : PUnit) => some (P.not (P.ile ((0 : Int)) ((-1 : Int))))) fun (r : Bool) => some r)) fun (r : Bool) => some r)) none) none) none) none) (P.bind (P.iter k (fun (y : List Int × Int) => P.cond (P.ilt y.snd (P.len x.fst.snd.snd)) (P.cond (P.inb y.snd (P.len x.fst.snd.snd)) (P.cond (P.room (P.add (P.len y.fst) (P.len (P.get x.fst.snd.snd y.snd []))) 8) (some (Sum.inl (P.app y.fst (P.get x.fst.snd.snd y.snd []), P.wrap IntKind.i64 (P.add y.snd ((1 : Int)))))) none) none) (some (Sum.inr (Sum.inl y.fst)))) ([], (0 : Int))) (P.either (fun (z : List Int) => P.bind (P.iter k (fun (y : Int) => P.cond (P.ilt y (P.len z)) (P.cond (P.inb y (P.len z)) (P.cond (P.ieq ((-1 : Int)) (P.get z y ((0 : Int)))) (some (Sum.inr (Sum.inr (P.not (P.ile ((0 : Int)) y))))) (some (Sum.inl (P.wrap IntKind.i64 (P.add y ((1 : Int))))))) none) (some (Sum.inr (Sum.inl PUnit.unit)))) ((0 : Int))) (P.either (fun (z : PUnit) => some (P.not (P.ile ((0 : Int)) ((-1 : Int))))) fun (r : Bool) => some r)) fun (r : Bool) => some r)))) fun (r : Bool) => some r)) fun (r : Bool) => some r)) fun (r : Bool) => some r)))) fun (r : Bool) => some r)) none) fun (r : Bool) => some r)))
noncomputable abbrev EN34 (k : Nat) (sp : List (Nat × Go.PG.Spec)) : Go.PG.Env := { T := T, specs := sp, codes := codesM, k := k, calm := [168, 101, 100, 0], maps := [(146, (.int .i64), .bool)], ospecs := [(101, ⟨(.slice (.slice (.int .i64))), (.slice (.int .i64)), slices_Clones_int k⟩)] }
theorem conform_May_eq (k : Nat) (x : (Ty.D (.pair T_api_Frame (.slice T_api_Obj)))) : evFn (EN34 k [(76, ⟨(.slice T_api_Obj), .bool, store_May k⟩), (77, ⟨(.pair (.slice T_api_Obj) T_api_Val), .bool, store_Right k⟩)]) 6 Try.f34 [(4, ⟨[.var 25 (.d (.int .i64))], [], (some (0, []))⟩), (11, ⟨[.var 62 (.d (.int .i64)), .box 7 [] (.d (.map (.int .i64) .bool))], [], (some (2, [.box 7 [] (.d (.map (.int .i64) .bool))]))⟩)] (.pair T_api_Frame (.slice T_api_Obj)) .bool x = conform_May k x := by kernel_rfl
theorem conform_May_spec (k : Nat) : SpecOk Try.prog GG 34 ⟨(.pair T_api_Frame (.slice T_api_Obj)), .bool, conform_May k⟩ :=
  fn_spec (envOk (E := EN34 k [(76, ⟨(.slice T_api_Obj), .bool, store_May k⟩), (77, ⟨(.pair (.slice T_api_Obj) T_api_Val), .bool, store_Right k⟩)]) tabOk (.cons (store_May_spec k) f76_at f76_ok <| .cons (store_Right_spec k) f77_at f77_ok <| .nil) codesMOk mixedOk (fun _ _ _ _ => trivial) (hmp := mapsOk) (ho := .cons (slices_Clones_int_ospec k) f101_at f101_ok <| .nil)) f34_at (fun x => (conform_May_eq k x).symm)
noncomputable def conform_Fresh : (k : Nat) → (Ty.D (.pair T_api_Frame (.pair (.int .i64) (.int .i64)))) → Option (Ty.D T_api_Frame) := fun (k : Nat) (x : (T_api_Frame.pair ((Ty.int IntKind.i64).pair (Ty.int IntKind.i64))).D) => P.bind (slices_Clone_api_Prop_api_Prop k x.fst.fst) fun (r : List (ByteArray × Int × Int)) => P.bind (slices_Clone_int_int k x.fst.snd.fst) fun (r_1 : List Int) => P.bind (P.iter k (fun (y : Int × List (ByteArray × Int × Int) × List Int × List (PUnit × Option (List Int))) => P.cond (P.ilt y.fst (P.len x.fst.snd.snd)) (P.cond (P.inb y.fst (P.len x.fst.snd.snd)) (P.bind (slices_Clone_int_int k (P.get x.fst.snd.snd y.fst [])) fun (r : List Int) => P.cond (P.room (P.add (P.len y.snd.snd.snd) (P.len [(PUnit.unit, some r)])) 24) (some (Sum.inl (P.wrap IntKind.i64 (P.add y.fst ((1 : Int))), y.snd.fst, y.snd.snd.fst, P.app y.snd.snd.snd [(PUnit.unit, some r)]))) none) none) (some (Sum.inr (Sum.inl (y.snd.fst, y.snd.snd.fst, y.snd.snd.snd))))) ((0 : Int), r, r_1, [])) (P.either (fun (z : List (ByteArray × Int × Int) × List Int × List (PUnit × Option (List Int))) => P.cond (P.ilt x.snd.fst ((0 : Int))) (P.bind (P.dall z.snd.snd) fun (y : List (List Int)) => some (z.fst, z.snd.fst, y)) (P.cond (P.ilt ((2000 : Int)) x.snd.fst) (P.bind (P.dall z.snd.snd) fun (y : List (List Int)) => some (z.fst, z.snd.fst, y)) (P.bind (P.iter k (fun (y : List (ByteArray × Int × Int) × List Int × List (PUnit × Option (List Int))) => P.cond (P.ile (P.len y.snd.fst) x.snd.fst) (P.cond (P.room (P.add (P.len y.snd.fst) (P.len [(-1 : Int)])) 8) (some (Sum.inl (y.fst, P.app y.snd.fst [(-1 : Int)], y.snd.snd))) none) (some (Sum.inr (Sum.inl (y.fst, y.snd.fst, y.snd.snd))))) (z.fst, z.snd.fst, z.snd.snd)) (P.either (fun (z : List (ByteArray × Int × Int) × List Int × List (PUnit × Option (List Int))) => P.bind (P.iter k (fun (y : List (ByteArray × Int × Int) × List Int × List (PUnit × Option (List Int))) => P.cond (P.ile (P.len y.snd.snd) x.snd.fst) (P.cond (P.room (P.add (P.len y.snd.snd) (P.len [(PUnit.unit, some ([] : List Int))])) 24) (some (Sum.inl (y.fst, y.snd.fst, P.app y.snd.snd [(PUnit.unit, some ([] : List Int))]))) none) (some (Sum.inr (Sum.inl (y.fst, y.snd.fst, y.snd.snd))))) (z.fst, z.snd.fst, z.snd.snd)) (P.either (fun (z : List (ByteArray × Int × Int) × List Int × List (PUnit × Option (List Int))) => P.cond (P.inb x.snd.fst (P.len z.snd.fst)) (P.cond (P.not (P.ieq (P.get z.snd.fst x.snd.fst ((0 : Int))) ((-1 : Int)))) (P.cond (P.inb x.snd.fst (P.len z.snd.snd)) (P.bind (P.dent z.snd.snd x.snd.fst) fun (ys : List Int) => P.cond (P.room (P.add (P.len ys) (P.len [P.get z.snd.fst x.snd.fst ((0 : Int))])) 8) (P.cond (P.inb x.snd.fst (P.len (P.dhole z.snd.snd x.snd.fst PUnit.unit))) (P.cond (P.inb x.snd.fst (P.len z.snd.fst)) (P.bind (P.dall (P.dgive (P.dhole z.snd.snd x.snd.fst PUnit.unit) x.snd.fst PUnit.unit (P.app ys [P.get z.snd.fst x.snd.fst ((0 : Int))]))) fun (y : List (List Int)) => some (z.fst, P.set z.snd.fst x.snd.fst x.snd.snd, y)) none) none) none) none) (P.cond (P.inb x.snd.fst (P.len z.snd.fst)) (P.bind (P.dall z.snd.snd) fun (y : List (List Int)) => some (z.fst, P.set z.snd.fst x.snd.fst x.snd.snd, y)) none)) none) fun (r : List (ByteArray × Int × Int) × List Int × List (List Int)) => some r)) fun (r : List (ByteArray × Int × Int) × List Int × List (List Int)) => some r)))) fun (r : List (ByteArray × Int × Int) × List Int × List (List Int)) => some r)
noncomputable abbrev EN37 (k : Nat) (sp : List (Nat × Go.PG.Spec)) : Go.PG.Env := { T := T, specs := sp, codes := codesR, k := k, calm := [168, 152, 0], maps := [(146, (.int .i64), .bool)], drows := [(41, (.int .i64), 24)], lend := [51, 56], ospecs := [(152, ⟨(.slice (.int .i64)), (.int .i64), slices_Clone_int_int k⟩)] }
theorem conform_Fresh_eq (k : Nat) (x : (Ty.D (.pair T_api_Frame (.pair (.int .i64) (.int .i64))))) : evFn (EN37 k [(151, ⟨(.slice T_api_Prop), (.slice T_api_Prop), slices_Clone_api_Prop_api_Prop k⟩)]) 6 Try.f37 [(4, ⟨[.box 7 [] (.s (.p (.d (.slice T_api_Prop)) (.p (.o (.int .i64)) (.r (.int .i64)))))], [], (some (0, [.box 7 [] (.s (.p (.d (.slice T_api_Prop)) (.p (.o (.int .i64)) (.r (.int .i64)))))]))⟩), (6, ⟨[.box 7 [] (.s (.p (.d (.slice T_api_Prop)) (.p (.o (.int .i64)) (.r (.int .i64)))))], [], (some (2, [.box 7 [] (.s (.p (.d (.slice T_api_Prop)) (.p (.o (.int .i64)) (.r (.int .i64)))))]))⟩)] (.pair T_api_Frame (.pair (.int .i64) (.int .i64))) T_api_Frame x = conform_Fresh k x := by kernel_rfl
theorem conform_Fresh_spec (k : Nat) : SpecOk Try.prog GG 37 ⟨(.pair T_api_Frame (.pair (.int .i64) (.int .i64))), T_api_Frame, conform_Fresh k⟩ :=
  fn_spec (envOk (E := EN37 k [(151, ⟨(.slice T_api_Prop), (.slice T_api_Prop), slices_Clone_api_Prop_api_Prop k⟩)]) tabOk (.cons (slices_Clone_api_Prop_api_Prop_spec k) f151_at f151_ok <| .nil) codesROk mixedOk (fun _ _ _ _ => trivial) (hmp := mapsOk) (ho := .cons (slices_Clone_int_int_ospec k) f152_at f152_ok <| .nil)) f37_at (fun x => (conform_Fresh_eq k x).symm)
noncomputable def law21_obj : (k : Nat) → (Ty.D (.int .i64)) → Option (Ty.D T_api_Val) := fun (k : Nat) (x : (Ty.int IntKind.i64).D) => some ((4 : Int), x)
theorem law21_obj_eq (k : Nat) (x : (Ty.D (.int .i64))) : evFn (EN k []) 6 Try.f50 [] (.int .i64) T_api_Val x = law21_obj k x := by kernel_rfl
theorem law21_obj_spec (k : Nat) : SpecOk Try.prog GG 50 ⟨(.int .i64), T_api_Val, law21_obj k⟩ :=
  fn_spec (envOk (E := EN k []) tabOk (.nil) codesOk mixedOk (fun _ _ _ _ => trivial) (hmp := mapsOk)) f50_at (fun x => (law21_obj_eq k x).symm)
noncomputable def ref06_Num : (k : Nat) → (Ty.D .unit) → Option (Ty.D (.slice T_api_Atom)) := fun (k : Nat) (x : Ty.unit.D) => some [((2 : Int), (0 : Int))]
theorem ref06_Num_eq (k : Nat) (x : (Ty.D .unit)) : evFn (EN k []) 6 Try.f61 [] .unit (.slice T_api_Atom) x = ref06_Num k x := by kernel_rfl
theorem ref06_Num_spec (k : Nat) : SpecOk Try.prog GG 61 ⟨.unit, (.slice T_api_Atom), ref06_Num k⟩ :=
  fn_spec (envOk (E := EN k []) tabOk (.nil) codesOk mixedOk (fun _ _ _ _ => trivial) (hmp := mapsOk)) f61_at (fun x => (ref06_Num_eq k x).symm)
noncomputable def ref06_Null : (k : Nat) → (Ty.D .unit) → Option (Ty.D (.slice T_api_Atom)) := fun (k : Nat) (x : Ty.unit.D) => some [((0 : Int), (0 : Int))]
theorem ref06_Null_eq (k : Nat) (x : (Ty.D .unit)) : evFn (EN k []) 6 Try.f62 [] .unit (.slice T_api_Atom) x = ref06_Null k x := by kernel_rfl
theorem ref06_Null_spec (k : Nat) : SpecOk Try.prog GG 62 ⟨.unit, (.slice T_api_Atom), ref06_Null k⟩ :=
  fn_spec (envOk (E := EN k []) tabOk (.nil) codesOk mixedOk (fun _ _ _ _ => trivial) (hmp := mapsOk)) f62_at (fun x => (ref06_Null_eq k x).symm)
noncomputable def law21_one : (k : Nat) → (Ty.D .unit) → Option (Ty.D T_proteanlaw21_All) := fun (k : Nat) (x : Ty.unit.D) => P.bind (law21_obj k ((0 : Int))) fun (r : Int × Int) => P.bind (ref06_Num k PUnit.unit) fun (r_1 : List (Int × Int)) => P.bind (ref06_Null k PUnit.unit) fun (r_2 : List (Int × Int)) => some (([((ByteArray.mk #[120]), r)], [(0 : Int)], [[]]), [([((ByteArray.mk #[112]), (2 : Int), (1 : Int))], (0 : Int), (0 : Int))], false, [((ByteArray.mk #[120]), [((4 : Int), (0 : Int))])], [(((4 : Int), (0 : Int)), [((ByteArray.mk #[112]), true, r_1)], r_2)])
noncomputable abbrev EN85 (k : Nat) (sp : List (Nat × Go.PG.Spec)) : Go.PG.Env := { T := T, specs := sp, codes := codes, k := k, calm := [168, 0, 1], maps := [(146, (.int .i64), .bool)] }
theorem law21_one_eq (k : Nat) (x : (Ty.D .unit)) : evFn (EN85 k [(50, ⟨(.int .i64), T_api_Val, law21_obj k⟩), (61, ⟨.unit, (.slice T_api_Atom), ref06_Num k⟩), (62, ⟨.unit, (.slice T_api_Atom), ref06_Null k⟩)]) 6 Try.f85 [] .unit T_proteanlaw21_All x = law21_one k x := by kernel_rfl
theorem law21_one_spec (k : Nat) : SpecOk Try.prog GG 85 ⟨.unit, T_proteanlaw21_All, law21_one k⟩ :=
  fn_spec (envOk (E := EN85 k [(50, ⟨(.int .i64), T_api_Val, law21_obj k⟩), (61, ⟨.unit, (.slice T_api_Atom), ref06_Num k⟩), (62, ⟨.unit, (.slice T_api_Atom), ref06_Null k⟩)]) tabOk (.cons (law21_obj_spec k) f50_at f50_ok <| .cons (ref06_Num_spec k) f61_at f61_ok <| .cons (ref06_Null_spec k) f62_at f62_ok <| .nil) codesOk mixedOk (fun _ _ _ _ => trivial) (hmp := mapsOk)) f85_at (fun x => (law21_one_eq k x).symm)
noncomputable def law21_fixed : (k : Nat) → (Ty.D .unit) → Option (Ty.D .bool) := fun (k : Nat) (x : Ty.unit.D) => P.bind (law21_one k PUnit.unit) fun (r : (List (ByteArray × Int × Int) × List Int × List (List Int)) × List (List (ByteArray × Int × Int) × Int × Int) × Bool × List (ByteArray × List (Int × Int)) × List ((Int × Int) × List (ByteArray × Bool × List (Int × Int)) × List (Int × Int))) => P.bind (conform_Fresh k (r.fst, (0 : Int), (1 : Int))) fun (r_1 : List (ByteArray × Int × Int) × List Int × List (List Int)) => P.bind (conform_State k (r.fst, r.snd.fst, r.snd.snd)) fun (r_2 : Bool) => P.cond r_2 (P.bind (conform_State k (r.fst, [], r.snd.snd)) fun (r_3 : Bool) => P.cond (P.not r_3) (P.bind (conform_State k (r.fst, r.snd.fst, false, [], [])) fun (r_4 : Bool) => P.cond (P.not r_4) (P.bind (conform_May k (r.fst, r.snd.fst)) fun (r_5 : Bool) => P.cond r_5 (P.cond (P.inb ((0 : Int)) (P.len r.snd.snd.snd.snd)) (P.bind (conform_Object k (r.fst, r.snd.fst, (0 : Int), (P.get r.snd.snd.snd.snd ((0 : Int)) (((0 : Int), (0 : Int)), [], [])).snd)) fun (r_6 : Bool) => P.cond r_6 (P.bind (law21_obj k ((0 : Int))) fun (r_7 : Int × Int) => P.bind (conform_Value k (r.fst, r_7, [((4 : Int), (0 : Int))])) fun (r_8 : Bool) => P.cond r_8 (P.bind (law21_obj k ((0 : Int))) fun (r_9 : Int × Int) => P.bind (ref06_Num k PUnit.unit) fun (r_10 : List (Int × Int)) => P.bind (conform_Value k (r.fst, r_9, r_10)) fun (r : Bool) => P.cond (P.not r) (P.cond (P.ieq (P.len r_1.snd.fst) ((1 : Int))) (P.cond (P.inb ((0 : Int)) (P.len r_1.snd.fst)) (P.cond (P.ieq (P.get r_1.snd.fst ((0 : Int)) ((0 : Int))) ((1 : Int))) (P.cond (P.inb ((0 : Int)) (P.len r_1.snd.snd)) (P.cond (P.ieq (P.len (P.get r_1.snd.snd ((0 : Int)) [])) ((1 : Int))) (P.cond (P.inb ((0 : Int)) (P.len r_1.snd.snd)) (P.cond (P.inb ((0 : Int)) (P.len (P.get r_1.snd.snd ((0 : Int)) []))) (some (P.ieq (P.get (P.get r_1.snd.snd ((0 : Int)) []) ((0 : Int)) ((0 : Int))) ((0 : Int)))) none) none) (some false)) none) (some false)) none) (some false)) (some false)) (some false)) (some false)) none) (some false)) (some false)) (some false)) (some false)
noncomputable abbrev EN27 (k : Nat) (sp : List (Nat × Go.PG.Spec)) : Go.PG.Env := { T := T, specs := sp, codes := codes, k := k, calm := [168, 0, 1], maps := [(146, (.int .i64), .bool)] }
theorem law21_fixed_eq (k : Nat) (x : (Ty.D .unit)) : evFn (EN27 k [(28, ⟨(.pair T_api_Frame (.pair (.slice T_api_Obj) (.pair (.int .i64) T_api_Shape))), .bool, conform_Object k⟩), (30, ⟨(.pair T_api_Frame (.pair T_api_Val (.slice T_api_Atom))), .bool, conform_Value k⟩), (32, ⟨(.pair T_api_Frame (.pair (.slice T_api_Obj) T_api_State)), .bool, conform_State k⟩), (34, ⟨(.pair T_api_Frame (.slice T_api_Obj)), .bool, conform_May k⟩), (37, ⟨(.pair T_api_Frame (.pair (.int .i64) (.int .i64))), T_api_Frame, conform_Fresh k⟩), (50, ⟨(.int .i64), T_api_Val, law21_obj k⟩), (61, ⟨.unit, (.slice T_api_Atom), ref06_Num k⟩), (85, ⟨.unit, T_proteanlaw21_All, law21_one k⟩)]) 6 Try.f27 [] .unit .bool x = law21_fixed k x := by kernel_rfl
theorem law21_fixed_spec (k : Nat) : SpecOk Try.prog GG 27 ⟨.unit, .bool, law21_fixed k⟩ :=
  fn_spec (envOk (E := EN27 k [(28, ⟨(.pair T_api_Frame (.pair (.slice T_api_Obj) (.pair (.int .i64) T_api_Shape))), .bool, conform_Object k⟩), (30, ⟨(.pair T_api_Frame (.pair T_api_Val (.slice T_api_Atom))), .bool, conform_Value k⟩), (32, ⟨(.pair T_api_Frame (.pair (.slice T_api_Obj) T_api_State)), .bool, conform_State k⟩), (34, ⟨(.pair T_api_Frame (.slice T_api_Obj)), .bool, conform_May k⟩), (37, ⟨(.pair T_api_Frame (.pair (.int .i64) (.int .i64))), T_api_Frame, conform_Fresh k⟩), (50, ⟨(.int .i64), T_api_Val, law21_obj k⟩), (61, ⟨.unit, (.slice T_api_Atom), ref06_Num k⟩), (85, ⟨.unit, T_proteanlaw21_All, law21_one k⟩)]) tabOk (.cons (conform_Object_spec k) f28_at f28_ok <| .cons (conform_Value_spec k) f30_at f30_ok <| .cons (conform_State_spec k) f32_at f32_ok <| .cons (conform_May_spec k) f34_at f34_ok <| .cons (conform_Fresh_spec k) f37_at f37_ok <| .cons (law21_obj_spec k) f50_at f50_ok <| .cons (ref06_Num_spec k) f61_at f61_ok <| .cons (law21_one_spec k) f85_at f85_ok <| .nil) codesOk mixedOk (fun _ _ _ _ => trivial) (hmp := mapsOk)) f27_at (fun x => (law21_fixed_eq k x).symm)
noncomputable def ref07_Get : (k : Nat) → (Ty.D (.pair T_api_Shape .str)) → Option (Ty.D (.pair T_api_Field .bool)) := fun (k : Nat) (x : (T_api_Shape.pair Ty.str).D) => P.bind (P.iter k (fun (y : Int) => P.cond (P.ilt y (P.len x.fst.fst)) (P.cond (P.inb y (P.len x.fst.fst)) (P.cond (P.seq (P.get x.fst.fst y ((ByteArray.mk #[]), false, [])).fst x.snd) (P.cond (P.inb y (P.len x.fst.fst)) (some (Sum.inr (Sum.inr (P.get x.fst.fst y ((ByteArray.mk #[]), false, []), true)))) none) (some (Sum.inl (P.wrap IntKind.i64 (P.add y ((1 : Int))))))) none) (some (Sum.inr (Sum.inl PUnit.unit)))) ((0 : Int))) (P.either (fun (z : PUnit) => some (((ByteArray.mk #[]), false, []), false)) fun (r : (ByteArray × Bool × List (Int × Int)) × Bool) => some r)
theorem ref07_Get_eq (k : Nat) (x : (Ty.D (.pair T_api_Shape .str))) : evFn (EN k []) 6 Try.f91 [(2, ⟨[.var 6 (.d (.int .i64))], [4], (some (0, []))⟩)] (.pair T_api_Shape .str) (.pair T_api_Field .bool) x = ref07_Get k x := by kernel_rfl
theorem ref07_Get_spec (k : Nat) : SpecOk Try.prog GG 91 ⟨(.pair T_api_Shape .str), (.pair T_api_Field .bool), ref07_Get k⟩ :=
  fn_spec (envOk (E := EN k []) tabOk (.nil) codesOk mixedOk (fun _ _ _ _ => trivial) (hmp := mapsOk)) f91_at (fun x => (ref07_Get_eq k x).symm)
noncomputable def ref21_Var : (k : Nat) → (Ty.D (.pair T_api_Frame .str)) → Option (Ty.D T_api_Val) := fun (k : Nat) (x : (T_api_Frame.pair Ty.str).D) => P.bind (P.iter k (fun (y : Int) => P.cond (P.ilt y (P.len x.fst.fst)) (P.cond (P.inb y (P.len x.fst.fst)) (P.cond (P.seq (P.get x.fst.fst y ((ByteArray.mk #[]), (0 : Int), (0 : Int))).fst x.snd) (P.cond (P.inb y (P.len x.fst.fst)) (some (Sum.inr (Sum.inr (P.get x.fst.fst y ((ByteArray.mk #[]), (0 : Int), (0 : Int))).snd))) none) (some (Sum.inl (P.wrap IntKind.i64 (P.add y ((1 : Int))))))) none) (some (Sum.inr (Sum.inl PUnit.unit)))) ((0 : Int))) (P.either (fun (z : PUnit) => some ((0 : Int), (0 : Int))) fun (r : Int × Int) => some r)
theorem ref21_Var_eq (k : Nat) (x : (Ty.D (.pair T_api_Frame .str))) : evFn (EN k []) 6 Try.f47 [(2, ⟨[.var 5 (.d (.int .i64))], [4], (some (0, []))⟩)] (.pair T_api_Frame .str) T_api_Val x = ref21_Var k x := by kernel_rfl
theorem ref21_Var_spec (k : Nat) : SpecOk Try.prog GG 47 ⟨(.pair T_api_Frame .str), T_api_Val, ref21_Var k⟩ :=
  fn_spec (envOk (E := EN k []) tabOk (.nil) codesOk mixedOk (fun _ _ _ _ => trivial) (hmp := mapsOk)) f47_at (fun x => (ref21_Var_eq k x).symm)
noncomputable def ref08_Var : (k : Nat) → (Ty.D (.pair T_api_State .str)) → Option (Ty.D (.slice T_api_Atom)) := fun (k : Nat) (x : (T_api_State.pair Ty.str).D) => P.bind (P.iter k (fun (y : Int) => P.cond (P.ilt y (P.len x.fst.snd.fst)) (P.cond (P.inb y (P.len x.fst.snd.fst)) (P.cond (P.seq (P.get x.fst.snd.fst y ((ByteArray.mk #[]), [])).fst x.snd) (P.cond (P.inb y (P.len x.fst.snd.fst)) (some (Sum.inr (Sum.inr (P.get x.fst.snd.fst y ((ByteArray.mk #[]), [])).snd))) none) (some (Sum.inl (P.wrap IntKind.i64 (P.add y ((1 : Int))))))) none) (some (Sum.inr (Sum.inl PUnit.unit)))) ((0 : Int))) (P.either (fun (z : PUnit) => P.bind (ref06_Null k PUnit.unit) fun (r : List (Int × Int)) => some r) fun (r : List (Int × Int)) => some r)
theorem ref08_Var_eq (k : Nat) (x : (Ty.D (.pair T_api_State .str))) : evFn (EN k [(62, ⟨.unit, (.slice T_api_Atom), ref06_Null k⟩)]) 6 Try.f49 [(2, ⟨[.var 5 (.d (.int .i64))], [], (some (0, []))⟩)] (.pair T_api_State .str) (.slice T_api_Atom) x = ref08_Var k x := by kernel_rfl
theorem ref08_Var_spec (k : Nat) : SpecOk Try.prog GG 49 ⟨(.pair T_api_State .str), (.slice T_api_Atom), ref08_Var k⟩ :=
  fn_spec (envOk (E := EN k [(62, ⟨.unit, (.slice T_api_Atom), ref06_Null k⟩)]) tabOk (.cons (ref06_Null_spec k) f62_at f62_ok <| .nil) codesOk mixedOk (fun _ _ _ _ => trivial) (hmp := mapsOk)) f49_at (fun x => (ref08_Var_eq k x).symm)
noncomputable def ref08_Loc : (k : Nat) → (Ty.D (.pair T_api_State T_api_Atom)) → Option (Ty.D (.pair T_api_Shape .bool)) := fun (k : Nat) (x : (T_api_State.pair T_api_Atom).D) => P.bind (P.iter k (fun (y : Int) => P.cond (P.ilt y (P.len x.fst.snd.snd)) (P.cond (P.inb y (P.len x.fst.snd.snd)) (P.cond (P.and (P.ieq (P.get x.fst.snd.snd y (((0 : Int), (0 : Int)), [], [])).fst.fst x.snd.fst) (P.ieq (P.get x.fst.snd.snd y (((0 : Int), (0 : Int)), [], [])).fst.snd x.snd.snd)) (P.cond (P.inb y (P.len x.fst.snd.snd)) (some (Sum.inr (Sum.inr ((P.get x.fst.snd.snd y (((0 : Int), (0 : Int)), [], [])).snd, true)))) none) (some (Sum.inl (P.wrap IntKind.i64 (P.add y ((1 : Int))))))) none) (some (Sum.inr (Sum.inl PUnit.unit)))) ((0 : Int))) (P.either (fun (z : PUnit) => some (([], []), false)) fun (r : (List (ByteArray × Bool × List (Int × Int)) × List (Int × Int)) × Bool) => some r)
theorem ref08_Loc_eq (k : Nat) (x : (Ty.D (.pair T_api_State T_api_Atom))) : evFn (EN k []) 6 Try.f99 [(2, ⟨[.var 6 (.d (.int .i64))], [4], (some (0, []))⟩)] (.pair T_api_State T_api_Atom) (.pair T_api_Shape .bool) x = ref08_Loc k x := by kernel_rfl
theorem ref08_Loc_spec (k : Nat) : SpecOk Try.prog GG 99 ⟨(.pair T_api_State T_api_Atom), (.pair T_api_Shape .bool), ref08_Loc k⟩ :=
  fn_spec (envOk (E := EN k []) tabOk (.nil) codesOk mixedOk (fun _ _ _ _ => trivial) (hmp := mapsOk)) f99_at (fun x => (ref08_Loc_eq k x).symm)
noncomputable def ref19_Right : (k : Nat) → (Ty.D (.pair (.slice T_api_Obj) T_api_Val)) → Option (Ty.D .bool) := fun (k : Nat) (x : (T_api_Obj.slice.pair T_api_Val).D) => P.cond (P.ieq x.snd.fst ((0 : Int))) (some (P.ieq x.snd.snd ((0 : Int)))) (P.cond (P.ieq x.snd.fst ((1 : Int))) (P.cond (P.ieq x.snd.snd ((0 : Int))) (some true) (some (P.ieq x.snd.snd ((1 : Int))))) (P.cond (P.ieq x.snd.fst ((2 : Int))) (some true) (P.cond (P.ieq x.snd.fst ((3 : Int))) (some (P.ile ((0 : Int)) x.snd.snd)) (P.cond (P.ieq x.snd.fst ((4 : Int))) (P.cond (P.ile ((0 : Int)) x.snd.snd) (some (P.ilt x.snd.snd (P.len x.fst))) (some false)) (some false)))))
theorem ref19_Right_eq (k : Nat) (x : (Ty.D (.pair (.slice T_api_Obj) T_api_Val))) : evFn (EN k []) 6 Try.f42 [] (.pair (.slice T_api_Obj) T_api_Val) .bool x = ref19_Right k x := by kernel_rfl
theorem ref19_Right_spec (k : Nat) : SpecOk Try.prog GG 42 ⟨(.pair (.slice T_api_Obj) T_api_Val), .bool, ref19_Right k⟩ :=
  fn_spec (envOk (E := EN k []) tabOk (.nil) codesOk mixedOk (fun _ _ _ _ => trivial) (hmp := mapsOk)) f42_at (fun x => (ref19_Right_eq k x).symm)
noncomputable def ref19_May : (k : Nat) → (Ty.D (.slice T_api_Obj)) → Option (Ty.D .bool) := fun (k : Nat) (x : T_api_Obj.slice.D) => P.bind (P.iter k (fun (y : Int) => P.cond (P.ilt y (P.len x)) (P.cond (P.inb y (P.len x)) (P.bind (P.iter k (fun (y_1 : Int) => P.cond (P.ilt y_1 (P.len (P.get x y ([], (0 : Int), (0 : Int))).fst)) (P.cond (P.inb y_1 (P.len (P.get x y ([], (0 : Int), (0 : Int))).fst)) (P.bind (ref19_Right k (x, (P.get (P.get x y ([], (0 : Int), (0 : Int))).fst y_1 ((ByteArray.mk #[]), (0 : Int), (0 : Int))).snd)) fun (r : Bool) => P.cond (P.not r) (some (Sum.inr (Sum.inr (Sum.inr (Sum.inr false))))) (P.cond (P.ilt ((0 : Int)) y_1) (P.cond (P.inb (P.wrap IntKind.i64 (P.sub y_1 ((1 : Int)))) (P.len (P.get x y ([], (0 : Int), (0 : Int))).fst)) (P.cond (P.inb y_1 (P.len (P.get x y ([], (0 : Int), (0 : Int))).fst)) (P.cond (P.not (P.slt (P.get (P.get x y ([], (0 : Int), (0 : Int))).fst (P.wrap IntKind.i64 (P.sub y_1 ((1 : Int)))) ((ByteArray.mk #[]), (0 : Int), (0 : Int))).fst (P.get (P.get x y ([], (0 : Int), (0 : Int))).fst y_1 ((ByteArray.mk #[]), (0 : Int), (0 : Int))).fst)) (some (Sum.inr (Sum.inr (Sum.inr (Sum.inr false))))) (some (Sum.inl (P.wrap IntKind.i64 (P.add y_1 ((1 : Int))))))) none) none) (some (Sum.inl (P.wrap IntKind.i64 (P.add y_1 ((1 : Int)))))))) none) (some (Sum.inr (Sum.inl PUnit.unit)))) ((0 : Int))) (P.either (fun (z : PUnit) => P.cond (P.not (P.and (P.ieq (P.get x y ([], (0 : Int), (0 : Int))).snd.fst ((0 : Int))) (P.ieq (P.get x y ([], (0 : Int), (0 : Int))).snd.snd ((0 : Int))))) (P.cond (P.not (P.ieq (P.get x y ([], (0 : Int), (0 : Int))).snd.fst ((4 : Int)))) (some (Sum.inr (Sum.inr false))) (P.cond (P.ilt (P.get x y ([], (0 : Int), (0 : Int))).snd.snd ((0 : Int))) (some (Sum.inr (Sum.inr false))) (P.cond (P.ile y (P.get x y ([], (0 : Int), (0 : Int))).snd.snd) (some (Sum.inr (Sum.inr false))) (some (Sum.inl (P.wrap IntKind.i64 (P.add y ((1 : Int))))))))) (some (Sum.inl (P.wrap IntKind.i64 (P.add y ((1 : Int))))))) fun (r : Int ⊕ PUnit ⊕ Bool) => some r)) none) (some (Sum.inr (Sum.inl PUnit.unit)))) ((0 : Int))) (P.either (fun (z : PUnit) => some true) fun (r : Bool) => some r)
theorem ref19_May_eq (k : Nat) (x : (Ty.D (.slice T_api_Obj))) : evFn (EN k [(42, ⟨(.pair (.slice T_api_Obj) T_api_Val), .bool, ref19_Right k⟩)]) 6 Try.f24 [(2, ⟨[.var 3 (.d (.int .i64))], [], (some (0, []))⟩), (6, ⟨[.var 5 (.d (.int .i64))], [], (some (2, []))⟩)] (.slice T_api_Obj) .bool x = ref19_May k x := by kernel_rfl
theorem ref19_May_spec (k : Nat) : SpecOk Try.prog GG 24 ⟨(.slice T_api_Obj), .bool, ref19_May k⟩ :=
  fn_spec (envOk (E := EN k [(42, ⟨(.pair (.slice T_api_Obj) T_api_Val), .bool, ref19_Right k⟩)]) tabOk (.cons (ref19_Right_spec k) f42_at f42_ok <| .nil) codesOk mixedOk (fun _ _ _ _ => trivial) (hmp := mapsOk)) f24_at (fun x => (ref19_May_eq k x).symm)
noncomputable def ref06_Same : (k : Nat) → (Ty.D (.pair (.slice T_api_Atom) (.slice T_api_Atom))) → Option (Ty.D .bool) := fun (k : Nat) (x : (T_api_Atom.slice.pair T_api_Atom.slice).D) => P.cond (P.not (P.ieq (P.len x.fst) (P.len x.snd))) (some false) (P.bind (P.iter k (fun (y : Int) => P.cond (P.ilt y (P.len x.fst)) (P.cond (P.inb y (P.len x.fst)) (P.cond (P.inb y (P.len x.snd)) (P.cond (P.not (P.and (P.ieq (P.get x.fst y ((0 : Int), (0 : Int))).fst (P.get x.snd y ((0 : Int), (0 : Int))).fst) (P.ieq (P.get x.fst y ((0 : Int), (0 : Int))).snd (P.get x.snd y ((0 : Int), (0 : Int))).snd))) (some (Sum.inr (Sum.inr false))) (some (Sum.inl (P.wrap IntKind.i64 (P.add y ((1 : Int))))))) none) none) (some (Sum.inr (Sum.inl PUnit.unit)))) ((0 : Int))) (P.either (fun (z : PUnit) => some true) fun (r : Bool) => some r))
theorem ref06_Same_eq (k : Nat) (x : (Ty.D (.pair (.slice T_api_Atom) (.slice T_api_Atom)))) : evFn (EN k []) 6 Try.f114 [(4, ⟨[.var 5 (.d (.int .i64))], [], (some (0, []))⟩)] (.pair (.slice T_api_Atom) (.slice T_api_Atom)) .bool x = ref06_Same k x := by kernel_rfl
theorem ref06_Same_spec (k : Nat) : SpecOk Try.prog GG 114 ⟨(.pair (.slice T_api_Atom) (.slice T_api_Atom)), .bool, ref06_Same k⟩ :=
  fn_spec (envOk (E := EN k []) tabOk (.nil) codesOk mixedOk (fun _ _ _ _ => trivial) (hmp := mapsOk)) f114_at (fun x => (ref06_Same_eq k x).symm)
noncomputable def ref06_Less : (k : Nat) → (Ty.D (.pair T_api_Atom T_api_Atom)) → Option (Ty.D .bool) := fun (k : Nat) (x : (T_api_Atom.pair T_api_Atom).D) => P.cond (P.ilt x.fst.fst x.snd.fst) (some true) (P.cond (P.ieq x.fst.fst x.snd.fst) (some (P.ilt x.fst.snd x.snd.snd)) (some false))
theorem ref06_Less_eq (k : Nat) (x : (Ty.D (.pair T_api_Atom T_api_Atom))) : evFn (EN k []) 6 Try.f110 [] (.pair T_api_Atom T_api_Atom) .bool x = ref06_Less k x := by kernel_rfl
theorem ref06_Less_spec (k : Nat) : SpecOk Try.prog GG 110 ⟨(.pair T_api_Atom T_api_Atom), .bool, ref06_Less k⟩ :=
  fn_spec (envOk (E := EN k []) tabOk (.nil) codesOk mixedOk (fun _ _ _ _ => trivial) (hmp := mapsOk)) f110_at (fun x => (ref06_Less_eq k x).symm)
noncomputable def ref06_Has : (k : Nat) → (Ty.D (.pair (.slice T_api_Atom) T_api_Atom)) → Option (Ty.D .bool) := fun (k : Nat) (x : (T_api_Atom.slice.pair T_api_Atom).D) => P.bind (P.iter k (fun (y : Int) => P.cond (P.ilt y (P.len x.fst)) (P.cond (P.inb y (P.len x.fst)) (P.cond (P.and (P.ieq (P.get x.fst y ((0 : Int), (0 : Int))).fst x.snd.fst) (P.ieq (P.get x.fst y ((0 : Int), (0 : Int))).snd x.snd.snd)) (some (Sum.inr (Sum.inr true))) (some (Sum.inl (P.wrap IntKind.i64 (P.add y ((1 : Int))))))) none) (some (Sum.inr (Sum.inl PUnit.unit)))) ((0 : Int))) (P.either (fun (z : PUnit) => some false) fun (r : Bool) => some r)
theorem ref06_Has_eq (k : Nat) (x : (Ty.D (.pair (.slice T_api_Atom) T_api_Atom))) : evFn (EN k []) 6 Try.f118 [(2, ⟨[.var 5 (.d (.int .i64))], [], (some (0, []))⟩)] (.pair (.slice T_api_Atom) T_api_Atom) .bool x = ref06_Has k x := by kernel_rfl
theorem ref06_Has_spec (k : Nat) : SpecOk Try.prog GG 118 ⟨(.pair (.slice T_api_Atom) T_api_Atom), .bool, ref06_Has k⟩ :=
  fn_spec (envOk (E := EN k []) tabOk (.nil) codesOk mixedOk (fun _ _ _ _ => trivial) (hmp := mapsOk)) f118_at (fun x => (ref06_Has_eq k x).symm)
noncomputable def ref06_Right : (k : Nat) → (Ty.D T_api_Atom) → Option (Ty.D .bool) := fun (k : Nat) (x : T_api_Atom.D) => P.cond (P.ile ((3 : Int)) x.fst) (P.cond (P.ile x.fst ((5 : Int))) (some (P.ile ((0 : Int)) x.snd)) (P.cond (P.ile ((0 : Int)) x.fst) (P.cond (P.ile x.fst ((6 : Int))) (some (P.ieq x.snd ((0 : Int)))) (some false)) (some false))) (P.cond (P.ile ((0 : Int)) x.fst) (P.cond (P.ile x.fst ((6 : Int))) (some (P.ieq x.snd ((0 : Int)))) (some false)) (some false))
theorem ref06_Right_eq (k : Nat) (x : (Ty.D T_api_Atom)) : evFn (EN k []) 6 Try.f161 [] T_api_Atom .bool x = ref06_Right k x := by kernel_rfl
theorem ref06_Right_spec (k : Nat) : SpecOk Try.prog GG 161 ⟨T_api_Atom, .bool, ref06_Right k⟩ :=
  fn_spec (envOk (E := EN k []) tabOk (.nil) codesOk mixedOk (fun _ _ _ _ => trivial) (hmp := mapsOk)) f161_at (fun x => (ref06_Right_eq k x).symm)
noncomputable def ref06_add : (k : Nat) → (Ty.D (.pair (.slice T_api_Atom) T_api_Atom)) → Option (Ty.D (.slice T_api_Atom)) := fun (k : Nat) (x : (T_api_Atom.slice.pair T_api_Atom).D) => P.bind (ref06_Right k x.snd) fun (r : Bool) => P.cond (P.not r) (some x.fst) (P.bind (ref06_Has k (x.fst, x.snd)) fun (r : Bool) => P.cond r (some x.fst) (P.bind (P.iter k (fun (y : List (Int × Int) × Bool × Int) => P.cond (P.ilt y.snd.snd (P.len x.fst)) (P.cond (P.not y.snd.fst) (P.cond (P.inb y.snd.snd (P.len x.fst)) (P.bind (ref06_Less k (x.snd, P.get x.fst y.snd.snd ((0 : Int), (0 : Int)))) fun (r : Bool) => P.cond r (P.cond (P.room (P.add (P.len y.fst) (P.len [x.snd])) 16) (P.cond (P.inb y.snd.snd (P.len x.fst)) (P.cond (P.room (P.add (P.len (P.app y.fst [x.snd])) (P.len [P.get x.fst y.snd.snd ((0 : Int), (0 : Int))])) 16) (some (Sum.inl (P.app (P.app y.fst [x.snd]) [P.get x.fst y.snd.snd ((0 : Int), (0 : Int))], true, P.wrap IntKind.i64 (P.add y.snd.snd ((1 : Int)))))) none) none) none) (P.cond (P.inb y.snd.snd (P.len x.fst)) (P.cond (P.room (P.add (P.len y.fst) (P.len [P.get x.fst y.snd.snd ((0 : Int), (0 : Int))])) 16) (some (Sum.inl (P.app y.fst [P.get x.fst y.snd.snd ((0 : Int), (0 : Int))], y.snd.fst, P.wrap IntKind.i64 (P.add y.snd.snd ((1 : Int)))))) none) none)) none) (P.cond (P.inb y.snd.snd (P.len x.fst)) (P.cond (P.room (P.add (P.len y.fst) (P.len [P.get x.fst y.snd.snd ((0 : Int), (0 : Int))])) 16) (some (Sum.inl (P.app y.fst [P.get x.fst y.snd.snd ((0 : Int), (0 : Int))], y.snd.fst, P.wrap IntKind.i64 (P.add y.snd.snd ((1 : Int)))))) none) none)) (some (Sum.inr (Sum.inl (y.fst, y.snd.fst))))) ([], false, (0 : Int))) (P.either (fun (z : List (Int × Int) × Bool) => P.cond (P.not z.snd) (P.cond (P.room (P.add (P.len z.fst) (P.len [x.snd])) 16) (some (P.app z.fst [x.snd])) none) (some z.fst)) fun (r : List (Int × Int)) => some r)))
theorem ref06_add_eq (k : Nat) (x : (Ty.D (.pair (.slice T_api_Atom) T_api_Atom))) : evFn (EN k [(110, ⟨(.pair T_api_Atom T_api_Atom), .bool, ref06_Less k⟩), (118, ⟨(.pair (.slice T_api_Atom) T_api_Atom), .bool, ref06_Has k⟩), (161, ⟨T_api_Atom, .bool, ref06_Right k⟩)]) 6 Try.f131 [(6, ⟨[.var 5 (.o (.st (.pair (.int .i64) (.int .i64)))), .var 6 (.d .bool), .var 7 (.d (.int .i64))], [], (some (0, [.var 5 (.o (.st (.pair (.int .i64) (.int .i64)))), .var 6 (.d .bool)]))⟩)] (.pair (.slice T_api_Atom) T_api_Atom) (.slice T_api_Atom) x = ref06_add k x := by kernel_rfl
theorem ref06_add_spec (k : Nat) : SpecOk Try.prog GG 131 ⟨(.pair (.slice T_api_Atom) T_api_Atom), (.slice T_api_Atom), ref06_add k⟩ :=
  fn_spec (envOk (E := EN k [(110, ⟨(.pair T_api_Atom T_api_Atom), .bool, ref06_Less k⟩), (118, ⟨(.pair (.slice T_api_Atom) T_api_Atom), .bool, ref06_Has k⟩), (161, ⟨T_api_Atom, .bool, ref06_Right k⟩)]) tabOk (.cons (ref06_Less_spec k) f110_at f110_ok <| .cons (ref06_Has_spec k) f118_at f118_ok <| .cons (ref06_Right_spec k) f161_at f161_ok <| .nil) codesOk mixedOk (fun _ _ _ _ => trivial) (hmp := mapsOk)) f131_at (fun x => (ref06_add_eq k x).symm)
noncomputable def ref06_Norm : (k : Nat) → (Ty.D (.slice T_api_Atom)) → Option (Ty.D (.slice T_api_Atom)) := fun (k : Nat) (x : T_api_Atom.slice.D) => P.bind (P.iter k (fun (y : List (Int × Int) × Int) => P.cond (P.ilt y.snd (P.len x)) (P.cond (P.inb y.snd (P.len x)) (P.bind (ref06_add k (y.fst, P.get x y.snd ((0 : Int), (0 : Int)))) fun (r : List (Int × Int)) => some (Sum.inl (r, P.wrap IntKind.i64 (P.add y.snd ((1 : Int)))))) none) (some (Sum.inr (Sum.inl y.fst)))) ([], (0 : Int))) (P.either (fun (z : List (Int × Int)) => some z) fun (r : List (Int × Int)) => some r)
theorem ref06_Norm_eq (k : Nat) (x : (Ty.D (.slice T_api_Atom))) : evFn (EN k [(131, ⟨(.pair (.slice T_api_Atom) T_api_Atom), (.slice T_api_Atom), ref06_add k⟩)]) 6 Try.f115 [(3, ⟨[.var 3 (.d (.slice (.st (.pair (.int .i64) (.int .i64))))), .var 4 (.d (.int .i64))], [], (some (0, [.var 3 (.d (.slice (.st (.pair (.int .i64) (.int .i64)))))]))⟩)] (.slice T_api_Atom) (.slice T_api_Atom) x = ref06_Norm k x := by kernel_rfl
theorem ref06_Norm_spec (k : Nat) : SpecOk Try.prog GG 115 ⟨(.slice T_api_Atom), (.slice T_api_Atom), ref06_Norm k⟩ :=
  fn_spec (envOk (E := EN k [(131, ⟨(.pair (.slice T_api_Atom) T_api_Atom), (.slice T_api_Atom), ref06_add k⟩)]) tabOk (.cons (ref06_add_spec k) f131_at f131_ok <| .nil) codesOk mixedOk (fun _ _ _ _ => trivial) (hmp := mapsOk)) f115_at (fun x => (ref06_Norm_eq k x).symm)
noncomputable def ref06_May : (k : Nat) → (Ty.D (.slice T_api_Atom)) → Option (Ty.D .bool) := fun (k : Nat) (x : T_api_Atom.slice.D) => P.bind (ref06_Norm k x) fun (r : List (Int × Int)) => P.bind (ref06_Same k (x, r)) fun (r : Bool) => some r
theorem ref06_May_eq (k : Nat) (x : (Ty.D (.slice T_api_Atom))) : evFn (EN k [(114, ⟨(.pair (.slice T_api_Atom) (.slice T_api_Atom)), .bool, ref06_Same k⟩), (115, ⟨(.slice T_api_Atom), (.slice T_api_Atom), ref06_Norm k⟩)]) 6 Try.f45 [] (.slice T_api_Atom) .bool x = ref06_May k x := by kernel_rfl
theorem ref06_May_spec (k : Nat) : SpecOk Try.prog GG 45 ⟨(.slice T_api_Atom), .bool, ref06_May k⟩ :=
  fn_spec (envOk (E := EN k [(114, ⟨(.pair (.slice T_api_Atom) (.slice T_api_Atom)), .bool, ref06_Same k⟩), (115, ⟨(.slice T_api_Atom), (.slice T_api_Atom), ref06_Norm k⟩)]) tabOk (.cons (ref06_Same_spec k) f114_at f114_ok <| .cons (ref06_Norm_spec k) f115_at f115_ok <| .nil) codesOk mixedOk (fun _ _ _ _ => trivial) (hmp := mapsOk)) f45_at (fun x => (ref06_May_eq k x).symm)
noncomputable def ref08_Place : (k : Nat) → (Ty.D T_api_Atom) → Option (Ty.D .bool) := fun (k : Nat) (x : T_api_Atom.D) => P.cond (P.ieq x.fst ((4 : Int))) (some (P.ile ((0 : Int)) x.snd)) (P.cond (P.ieq x.fst ((5 : Int))) (some (P.ile ((0 : Int)) x.snd)) (some false))
theorem ref08_Place_eq (k : Nat) (x : (Ty.D T_api_Atom)) : evFn (EN k []) 6 Try.f108 [] T_api_Atom .bool x = ref08_Place k x := by kernel_rfl
theorem ref08_Place_spec (k : Nat) : SpecOk Try.prog GG 108 ⟨T_api_Atom, .bool, ref08_Place k⟩ :=
  fn_spec (envOk (E := EN k []) tabOk (.nil) codesOk mixedOk (fun _ _ _ _ => trivial) (hmp := mapsOk)) f108_at (fun x => (ref08_Place_eq k x).symm)
noncomputable def ref07_May : (k : Nat) → (Ty.D T_api_Shape) → Option (Ty.D .bool) := fun (k : Nat) (x : T_api_Shape.D) => P.bind (P.iter k (fun (y : Int) => P.cond (P.ilt y (P.len x.fst)) (P.cond (P.inb y (P.len x.fst)) (P.bind (ref06_May k (P.get x.fst y ((ByteArray.mk #[]), false, [])).snd.snd) fun (r : Bool) => P.cond (P.not r) (some (Sum.inr (Sum.inr false))) (P.cond (P.ilt ((0 : Int)) y) (P.cond (P.inb (P.wrap IntKind.i64 (P.sub y ((1 : Int)))) (P.len x.fst)) (P.cond (P.inb y (P.len x.fst)) (P.cond (P.not (P.slt (P.get x.fst (P.wrap IntKind.i64 (P.sub y ((1 : Int)))) ((ByteArray.mk #[]), false, [])).fst (P.get x.fst y ((ByteArray.mk #[]), false, [])).fst)) (some (Sum.inr (Sum.inr false))) (some (Sum.inl (P.wrap IntKind.i64 (P.add y ((1 : Int))))))) none) none) (some (Sum.inl (P.wrap IntKind.i64 (P.add y ((1 : Int)))))))) none) (some (Sum.inr (Sum.inl PUnit.unit)))) ((0 : Int))) (P.either (fun (z : PUnit) => P.bind (ref06_May k x.snd) fun (r : Bool) => some r) fun (r : Bool) => some r)
theorem ref07_May_eq (k : Nat) (x : (Ty.D T_api_Shape)) : evFn (EN k [(45, ⟨(.slice T_api_Atom), .bool, ref06_May k⟩)]) 6 Try.f109 [(2, ⟨[.var 3 (.d (.int .i64))], [], (some (0, []))⟩)] T_api_Shape .bool x = ref07_May k x := by kernel_rfl
theorem ref07_May_spec (k : Nat) : SpecOk Try.prog GG 109 ⟨T_api_Shape, .bool, ref07_May k⟩ :=
  fn_spec (envOk (E := EN k [(45, ⟨(.slice T_api_Atom), .bool, ref06_May k⟩)]) tabOk (.cons (ref06_May_spec k) f45_at f45_ok <| .nil) codesOk mixedOk (fun _ _ _ _ => trivial) (hmp := mapsOk)) f109_at (fun x => (ref07_May_eq k x).symm)
noncomputable def ref08_May : (k : Nat) → (Ty.D T_api_State) → Option (Ty.D .bool) := fun (k : Nat) (x : T_api_State.D) => P.bind (P.iter k (fun (y : Int) => P.cond (P.ilt y (P.len x.snd.fst)) (P.cond (P.inb y (P.len x.snd.fst)) (P.bind (ref06_May k (P.get x.snd.fst y ((ByteArray.mk #[]), [])).snd) fun (r : Bool) => P.cond (P.not r) (some (Sum.inr (Sum.inr false))) (P.cond (P.ilt ((0 : Int)) y) (P.cond (P.inb (P.wrap IntKind.i64 (P.sub y ((1 : Int)))) (P.len x.snd.fst)) (P.cond (P.inb y (P.len x.snd.fst)) (P.cond (P.not (P.slt (P.get x.snd.fst (P.wrap IntKind.i64 (P.sub y ((1 : Int)))) ((ByteArray.mk #[]), [])).fst (P.get x.snd.fst y ((ByteArray.mk #[]), [])).fst)) (some (Sum.inr (Sum.inr false))) (some (Sum.inl (P.wrap IntKind.i64 (P.add y ((1 : Int))))))) none) none) (some (Sum.inl (P.wrap IntKind.i64 (P.add y ((1 : Int)))))))) none) (some (Sum.inr (Sum.inl PUnit.unit)))) ((0 : Int))) (P.either (fun (z : PUnit) => P.bind (P.iter k (fun (y : Int) => P.cond (P.ilt y (P.len x.snd.snd)) (P.cond (P.inb y (P.len x.snd.snd)) (P.bind (ref08_Place k (P.get x.snd.snd y (((0 : Int), (0 : Int)), [], [])).fst) fun (r : Bool) => P.cond (P.not r) (some (Sum.inr (Sum.inr false))) (P.cond (P.inb y (P.len x.snd.snd)) (P.bind (ref07_May k (P.get x.snd.snd y (((0 : Int), (0 : Int)), [], [])).snd) fun (r : Bool) => P.cond (P.not r) (some (Sum.inr (Sum.inr false))) (P.cond (P.ilt ((0 : Int)) y) (P.cond (P.inb (P.wrap IntKind.i64 (P.sub y ((1 : Int)))) (P.len x.snd.snd)) (P.cond (P.inb y (P.len x.snd.snd)) (P.bind (ref06_Less k ((P.get x.snd.snd (P.wrap IntKind.i64 (P.sub y ((1 : Int)))) (((0 : Int), (0 : Int)), [], [])).fst, (P.get x.snd.snd y (((0 : Int), (0 : Int)), [], [])).fst)) fun (r : Bool) => P.cond (P.not r) (some (Sum.inr (Sum.inr false))) (some (Sum.inl (P.wrap IntKind.i64 (P.add y ((1 : Int))))))) none) none) (some (Sum.inl (P.wrap IntKind.i64 (P.add y ((1 : Int)))))))) none)) none) (some (Sum.inr (Sum.inl PUnit.unit)))) ((0 : Int))) (P.either (fun (z : PUnit) => P.cond (P.not x.fst) (some true) (P.cond (P.ieq (P.len x.snd.fst) ((0 : Int))) (some (P.ieq (P.len x.snd.snd) ((0 : Int)))) (some false))) fun (r : Bool) => some r)) fun (r : Bool) => some r)
theorem ref08_May_eq (k : Nat) (x : (Ty.D T_api_State)) : evFn (EN k [(45, ⟨(.slice T_api_Atom), .bool, ref06_May k⟩), (108, ⟨T_api_Atom, .bool, ref08_Place k⟩), (109, ⟨T_api_Shape, .bool, ref07_May k⟩), (110, ⟨(.pair T_api_Atom T_api_Atom), .bool, ref06_Less k⟩)]) 6 Try.f41 [(2, ⟨[.var 3 (.d (.int .i64))], [], (some (0, []))⟩), (7, ⟨[.var 4 (.d (.int .i64))], [], (some (2, []))⟩)] T_api_State .bool x = ref08_May k x := by kernel_rfl
theorem ref08_May_spec (k : Nat) : SpecOk Try.prog GG 41 ⟨T_api_State, .bool, ref08_May k⟩ :=
  fn_spec (envOk (E := EN k [(45, ⟨(.slice T_api_Atom), .bool, ref06_May k⟩), (108, ⟨T_api_Atom, .bool, ref08_Place k⟩), (109, ⟨T_api_Shape, .bool, ref07_May k⟩), (110, ⟨(.pair T_api_Atom T_api_Atom), .bool, ref06_Less k⟩)]) tabOk (.cons (ref06_May_spec k) f45_at f45_ok <| .cons (ref08_Place_spec k) f108_at f108_ok <| .cons (ref07_May_spec k) f109_at f109_ok <| .cons (ref06_Less_spec k) f110_at f110_ok <| .nil) codesOk mixedOk (fun _ _ _ _ => trivial) (hmp := mapsOk)) f41_at (fun x => (ref08_May_eq k x).symm)
noncomputable def ref06_Union : (k : Nat) → (Ty.D (.pair (.slice T_api_Atom) (.slice T_api_Atom))) → Option (Ty.D (.slice T_api_Atom)) := fun (k : Nat) (x : (T_api_Atom.slice.pair T_api_Atom.slice).D) => P.bind (ref06_Norm k x.fst) fun (r : List (Int × Int)) => P.bind (P.iter k (fun (y : List (Int × Int) × Int) => P.cond (P.ilt y.snd (P.len x.snd)) (P.cond (P.inb y.snd (P.len x.snd)) (P.bind (ref06_add k (y.fst, P.get x.snd y.snd ((0 : Int), (0 : Int)))) fun (r : List (Int × Int)) => some (Sum.inl (r, P.wrap IntKind.i64 (P.add y.snd ((1 : Int)))))) none) (some (Sum.inr (Sum.inl y.fst)))) (r, (0 : Int))) (P.either (fun (z : List (Int × Int)) => some z) fun (r : List (Int × Int)) => some r)
theorem ref06_Union_eq (k : Nat) (x : (Ty.D (.pair (.slice T_api_Atom) (.slice T_api_Atom)))) : evFn (EN k [(115, ⟨(.slice T_api_Atom), (.slice T_api_Atom), ref06_Norm k⟩), (131, ⟨(.pair (.slice T_api_Atom) T_api_Atom), (.slice T_api_Atom), ref06_add k⟩)]) 6 Try.f59 [(3, ⟨[.var 5 (.d (.slice (.st (.pair (.int .i64) (.int .i64))))), .var 6 (.d (.int .i64))], [], (some (0, [.var 5 (.d (.slice (.st (.pair (.int .i64) (.int .i64)))))]))⟩)] (.pair (.slice T_api_Atom) (.slice T_api_Atom)) (.slice T_api_Atom) x = ref06_Union k x := by kernel_rfl
theorem ref06_Union_spec (k : Nat) : SpecOk Try.prog GG 59 ⟨(.pair (.slice T_api_Atom) (.slice T_api_Atom)), (.slice T_api_Atom), ref06_Union k⟩ :=
  fn_spec (envOk (E := EN k [(115, ⟨(.slice T_api_Atom), (.slice T_api_Atom), ref06_Norm k⟩), (131, ⟨(.pair (.slice T_api_Atom) T_api_Atom), (.slice T_api_Atom), ref06_add k⟩)]) tabOk (.cons (ref06_Norm_spec k) f115_at f115_ok <| .cons (ref06_add_spec k) f131_at f131_ok <| .nil) codesOk mixedOk (fun _ _ _ _ => trivial) (hmp := mapsOk)) f59_at (fun x => (ref06_Union_eq k x).symm)
noncomputable def ref19_own : (k : Nat) → (Ty.D (.pair T_api_Obj .str)) → Option (Ty.D (.pair T_api_Val .bool)) := fun (k : Nat) (x : (T_api_Obj.pair Ty.str).D) => P.bind (P.iter k (fun (y : Int) => P.cond (P.ilt y (P.len x.fst.fst)) (P.cond (P.inb y (P.len x.fst.fst)) (P.cond (P.seq (P.get x.fst.fst y ((ByteArray.mk #[]), (0 : Int), (0 : Int))).fst x.snd) (P.cond (P.inb y (P.len x.fst.fst)) (some (Sum.inr (Sum.inr ((P.get x.fst.fst y ((ByteArray.mk #[]), (0 : Int), (0 : Int))).snd, true)))) none) (some (Sum.inl (P.wrap IntKind.i64 (P.add y ((1 : Int))))))) none) (some (Sum.inr (Sum.inl PUnit.unit)))) ((0 : Int))) (P.either (fun (z : PUnit) => some (((0 : Int), (0 : Int)), false)) fun (r : (Int × Int) × Bool) => some r)
noncomputable def ref19_Get : (k : Nat) → (Ty.D (.pair (.slice T_api_Obj) (.pair T_api_Val .str))) → Option (Ty.D (.pair T_api_Val .bool)) := fun (k : Nat) (x : (T_api_Obj.slice.pair (T_api_Val.pair Ty.str)).D) => P.bind (ref19_May k x.fst) fun (r : Bool) => P.cond (P.not r) (some (((0 : Int), (0 : Int)), false)) (P.bind (P.iter k (fun (y : Int × Int) => P.cond (P.ieq y.fst ((4 : Int))) (P.bind (ref19_Right k (x.fst, y)) fun (r : Bool) => P.cond r (P.cond (P.inb y.snd (P.len x.fst)) (P.bind (ref19_own k (P.get x.fst y.snd ([], (0 : Int), (0 : Int)), x.snd.snd)) fun (r : (Int × Int) × Bool) => P.cond r.snd (some (Sum.inr (Sum.inr (r.fst, true)))) (P.cond (P.inb y.snd (P.len x.fst)) (some (Sum.inl (P.get x.fst y.snd ([], (0 : Int), (0 : Int))).snd)) none)) none) (some (Sum.inr (Sum.inl PUnit.unit)))) (some (Sum.inr (Sum.inl PUnit.unit)))) x.snd.fst) (P.either (fun (z : PUnit) => some (((0 : Int), (0 : Int)), false)) fun (r : (Int × Int) × Bool) => some r))
noncomputable def ref19_With : (k : Nat) → (Ty.D (.pair (.slice T_api_Prop) (.pair .str T_api_Val))) → Option (Ty.D (.slice T_api_Prop)) := fun (k : Nat) (x : (T_api_Prop.slice.pair (Ty.str.pair T_api_Val)).D) => P.bind (P.iter k (fun (y : List (ByteArray × Int × Int) × Bool × Int) => P.cond (P.ilt y.snd.snd (P.len x.fst)) (P.cond (P.not y.snd.fst) (P.cond (P.inb y.snd.snd (P.len x.fst)) (P.cond (P.sle x.snd.fst (P.get x.fst y.snd.snd ((ByteArray.mk #[]), (0 : Int), (0 : Int))).fst) (P.cond (P.room (P.add (P.len y.fst) (P.len [(x.snd.fst, x.snd.snd)])) 32) (P.cond (P.inb y.snd.snd (P.len x.fst)) (P.cond (P.not (P.seq (P.get x.fst y.snd.snd ((ByteArray.mk #[]), (0 : Int), (0 : Int))).fst x.snd.fst)) (P.cond (P.inb y.snd.snd (P.len x.fst)) (P.cond (P.room (P.add (P.len (P.app y.fst [(x.snd.fst, x.snd.snd)])) (P.len [P.get x.fst y.snd.snd ((ByteArray.mk #[]), (0 : Int), (0 : Int))])) 32) (some (Sum.inl (P.app (P.app y.fst [(x.snd.fst, x.snd.snd)]) [P.get x.fst y.snd.snd ((ByteArray.mk #[]), (0 : Int), (0 : Int))], true, P.wrap IntKind.i64 (P.add y.snd.snd ((1 : Int)))))) none) none) (some (Sum.inl (P.app y.fst [(x.snd.fst, x.snd.snd)], true, P.wrap IntKind.i64 (P.add y.snd.snd ((1 : Int))))))) none) none) (P.cond (P.inb y.snd.snd (P.len x.fst)) (P.cond (P.not (P.seq (P.get x.fst y.snd.snd ((ByteArray.mk #[]), (0 : Int), (0 : Int))).fst x.snd.fst)) (P.cond (P.inb y.snd.snd (P.len x.fst)) (P.cond (P.room (P.add (P.len y.fst) (P.len [P.get x.fst y.snd.snd ((ByteArray.mk #[]), (0 : Int), (0 : Int))])) 32) (some (Sum.inl (P.app y.fst [P.get x.fst y.snd.snd ((ByteArray.mk #[]), (0 : Int), (0 : Int))], y.snd.fst, P.wrap IntKind.i64 (P.add y.snd.snd ((1 : Int)))))) none) none) (some (Sum.inl (y.fst, y.snd.fst, P.wrap IntKind.i64 (P.add y.snd.snd ((1 : Int))))))) none)) none) (P.cond (P.inb y.snd.snd (P.len x.fst)) (P.cond (P.not (P.seq (P.get x.fst y.snd.snd ((ByteArray.mk #[]), (0 : Int), (0 : Int))).fst x.snd.fst)) (P.cond (P.inb y.snd.snd (P.len x.fst)) (P.cond (P.room (P.add (P.len y.fst) (P.len [P.get x.fst y.snd.snd ((ByteArray.mk #[]), (0 : Int), (0 : Int))])) 32) (some (Sum.inl (P.app y.fst [P.get x.fst y.snd.snd ((ByteArray.mk #[]), (0 : Int), (0 : Int))], y.snd.fst, P.wrap IntKind.i64 (P.add y.snd.snd ((1 : Int)))))) none) none) (some (Sum.inl (y.fst, y.snd.fst, P.wrap IntKind.i64 (P.add y.snd.snd ((1 : Int))))))) none)) (some (Sum.inr (Sum.inl (y.fst, y.snd.fst))))) ([], false, (0 : Int))) (P.either (fun (z : List (ByteArray × Int × Int) × Bool) => P.cond (P.not z.snd) (P.cond (P.room (P.add (P.len z.fst) (P.len [(x.snd.fst, x.snd.snd)])) 32) (some (P.app z.fst [(x.snd.fst, x.snd.snd)])) none) (some z.fst)) fun (r : List (ByteArray × Int × Int)) => some r)
theorem ref19_With_eq (k : Nat) (x : (Ty.D (.pair (.slice T_api_Prop) (.pair .str T_api_Val)))) : evFn (EN k []) 6 Try.f116 [(4, ⟨[.var 7 (.o (.st (.pair .str (.st (.pair (.int .i64) (.int .i64)))))), .var 8 (.d .bool), .var 9 (.d (.int .i64))], [], (some (0, [.var 7 (.o (.st (.pair .str (.st (.pair (.int .i64) (.int .i64)))))), .var 8 (.d .bool)]))⟩)] (.pair (.slice T_api_Prop) (.pair .str T_api_Val)) (.slice T_api_Prop) x = ref19_With k x := by kernel_rfl
theorem ref19_With_spec (k : Nat) : SpecOk Try.prog GG 116 ⟨(.pair (.slice T_api_Prop) (.pair .str T_api_Val)), (.slice T_api_Prop), ref19_With k⟩ :=
  fn_spec (envOk (E := EN k []) tabOk (.nil) codesOk mixedOk (fun _ _ _ _ => trivial) (hmp := mapsOk)) f116_at (fun x => (ref19_With_eq k x).symm)
noncomputable def ref19_Set : (k : Nat) → (Ty.D (.pair (.slice T_api_Obj) (.pair T_api_Val (.pair .str T_api_Val)))) → Option (Ty.D (.pair (.slice T_api_Obj) .bool)) := fun (k : Nat) (x : (T_api_Obj.slice.pair (T_api_Val.pair (Ty.str.pair T_api_Val))).D) => P.bind (ref19_May k x.fst) fun (r : Bool) => P.cond (P.not r) (some ([], false)) (P.cond (P.not (P.ieq x.snd.fst.fst ((4 : Int)))) (some ([], false)) (P.bind (ref19_Right k (x.fst, x.snd.fst)) fun (r : Bool) => P.cond (P.not r) (some ([], false)) (P.bind (ref19_Right k (x.fst, x.snd.snd.snd)) fun (r : Bool) => P.cond (P.not r) (some ([], false)) (P.cond (P.room (P.add (P.len (P.nil (List (ByteArray × Int × Int) × Int × Int))) (P.len x.fst)) 40) (P.cond (P.inb x.snd.fst.snd (P.len x.fst)) (P.bind (ref19_With k ((P.get x.fst x.snd.fst.snd ([], (0 : Int), (0 : Int))).fst, x.snd.snd.fst, x.snd.snd.snd)) fun (r : List (ByteArray × Int × Int)) => P.cond (P.inb x.snd.fst.snd (P.len (P.app [] x.fst))) (some (P.set (P.app [] x.fst) x.snd.fst.snd (r, (P.get (P.app [] x.fst) x.snd.fst.snd ([], (0 : Int), (0 : Int))).snd), true)) none) none) none))))
noncomputable def ref07_With : (k : Nat) → (Ty.D (.pair T_api_Shape T_api_Field)) → Option (Ty.D T_api_Shape) := fun (k : Nat) (x : (T_api_Shape.pair T_api_Field).D) => P.bind (P.iter k (fun (y : Bool × Int × List (ByteArray × Bool × List (Int × Int)) × List (Int × Int)) => P.cond (P.ilt y.snd.fst (P.len x.fst.fst)) (P.cond (P.not y.fst) (P.cond (P.inb y.snd.fst (P.len x.fst.fst)) (P.cond (P.sle x.snd.fst (P.get x.fst.fst y.snd.fst ((ByteArray.mk #[]), false, [])).fst) (P.cond (P.room (P.add (P.len y.snd.snd.fst) (P.len [x.snd])) 48) (P.cond (P.inb y.snd.fst (P.len x.fst.fst)) (P.cond (P.not (P.seq (P.get x.fst.fst y.snd.fst ((ByteArray.mk #[]), false, [])).fst x.snd.fst)) (P.cond (P.inb y.snd.fst (P.len x.fst.fst)) (P.cond (P.room (P.add (P.len (P.app y.snd.snd.fst [x.snd])) (P.len [P.get x.fst.fst y.snd.fst ((ByteArray.mk #[]), false, [])])) 48) (some (Sum.inl (true, P.wrap IntKind.i64 (P.add y.snd.fst ((1 : Int))), P.app (P.app y.snd.snd.fst [x.snd]) [P.get x.fst.fst y.snd.fst ((ByteArray.mk #[]), false, [])], y.snd.snd.snd))) none) none) (some (Sum.inl (true, P.wrap IntKind.i64 (P.add y.snd.fst ((1 : Int))), P.app y.snd.snd.fst [x.snd], y.snd.snd.snd)))) none) none) (P.cond (P.inb y.snd.fst (P.len x.fst.fst)) (P.cond (P.not (P.seq (P.get x.fst.fst y.snd.fst ((ByteArray.mk #[]), false, [])).fst x.snd.fst)) (P.cond (P.inb y.snd.fst (P.len x.fst.fst)) (P.cond (P.room (P.add (P.len y.snd.snd.fst) (P.len [P.get x.fst.fst y.snd.fst ((ByteArray.mk #[]), false, [])])) 48) (some (Sum.inl (y.fst, P.wrap IntKind.i64 (P.add y.snd.fst ((1 : Int))), P.app y.snd.snd.fst [P.get x.fst.fst y.snd.fst ((ByteArray.mk #[]), false, [])], y.snd.snd.snd))) none) none) (some (Sum.inl (y.fst, P.wrap IntKind.i64 (P.add y.snd.fst ((1 : Int))), y.snd.snd.fst, y.snd.snd.snd)))) none)) none) (P.cond (P.inb y.snd.fst (P.len x.fst.fst)) (P.cond (P.not (P.seq (P.get x.fst.fst y.snd.fst ((ByteArray.mk #[]), false, [])).fst x.snd.fst)) (P.cond (P.inb y.snd.fst (P.len x.fst.fst)) (P.cond (P.room (P.add (P.len y.snd.snd.fst) (P.len [P.get x.fst.fst y.snd.fst ((ByteArray.mk #[]), false, [])])) 48) (some (Sum.inl (y.fst, P.wrap IntKind.i64 (P.add y.snd.fst ((1 : Int))), P.app y.snd.snd.fst [P.get x.fst.fst y.snd.fst ((ByteArray.mk #[]), false, [])], y.snd.snd.snd))) none) none) (some (Sum.inl (y.fst, P.wrap IntKind.i64 (P.add y.snd.fst ((1 : Int))), y.snd.snd.fst, y.snd.snd.snd)))) none)) (some (Sum.inr (Sum.inl (y.fst, y.snd.snd.fst, y.snd.snd.snd))))) (false, (0 : Int), [], x.fst.snd)) (P.either (fun (z : Bool × List (ByteArray × Bool × List (Int × Int)) × List (Int × Int)) => P.cond (P.not z.fst) (P.cond (P.room (P.add (P.len z.snd.fst) (P.len [x.snd])) 48) (some (P.app z.snd.fst [x.snd], z.snd.snd)) none) (some (z.snd.fst, z.snd.snd))) fun (r : List (ByteArray × Bool × List (Int × Int)) × List (Int × Int)) => some r)
theorem ref07_With_eq (k : Nat) (x : (Ty.D (.pair T_api_Shape T_api_Field))) : evFn (EN k []) 6 Try.f120 [(4, ⟨[.var 6 (.d .bool), .var 7 (.d (.int .i64)), .box 5 [] (.s (.p (.o (.st (.pair .str (.pair .bool (.slice (.st (.pair (.int .i64) (.int .i64)))))))) (.d (.slice (.st (.pair (.int .i64) (.int .i64)))))))], [], (some (0, [.var 6 (.d .bool), .box 5 [] (.s (.p (.o (.st (.pair .str (.pair .bool (.slice (.st (.pair (.int .i64) (.int .i64)))))))) (.d (.slice (.st (.pair (.int .i64) (.int .i64)))))))]))⟩)] (.pair T_api_Shape T_api_Field) T_api_Shape x = ref07_With k x := by kernel_rfl
theorem ref07_With_spec (k : Nat) : SpecOk Try.prog GG 120 ⟨(.pair T_api_Shape T_api_Field), T_api_Shape, ref07_With k⟩ :=
  fn_spec (envOk (E := EN k []) tabOk (.nil) codesOk mixedOk (fun _ _ _ _ => trivial) (hmp := mapsOk)) f120_at (fun x => (ref07_With_eq k x).symm)
noncomputable def ref07_Strong : (k : Nat) → (Ty.D (.pair T_api_Shape (.pair .str (.slice T_api_Atom)))) → Option (Ty.D T_api_Shape) := fun (k : Nat) (x : (T_api_Shape.pair (Ty.str.pair T_api_Atom.slice)).D) => P.bind (ref07_May k x.fst) fun (r : Bool) => P.cond (P.not r) (some ([], [])) (P.bind (ref06_Norm k x.snd.snd) fun (r : List (Int × Int)) => P.bind (ref07_With k (x.fst, x.snd.fst, true, r)) fun (r : List (ByteArray × Bool × List (Int × Int)) × List (Int × Int)) => some r)
theorem ref07_Strong_eq (k : Nat) (x : (Ty.D (.pair T_api_Shape (.pair .str (.slice T_api_Atom))))) : evFn (EN k [(109, ⟨T_api_Shape, .bool, ref07_May k⟩), (115, ⟨(.slice T_api_Atom), (.slice T_api_Atom), ref06_Norm k⟩), (120, ⟨(.pair T_api_Shape T_api_Field), T_api_Shape, ref07_With k⟩)]) 6 Try.f54 [] (.pair T_api_Shape (.pair .str (.slice T_api_Atom))) T_api_Shape x = ref07_Strong k x := by kernel_rfl
theorem ref07_Strong_spec (k : Nat) : SpecOk Try.prog GG 54 ⟨(.pair T_api_Shape (.pair .str (.slice T_api_Atom))), T_api_Shape, ref07_Strong k⟩ :=
  fn_spec (envOk (E := EN k [(109, ⟨T_api_Shape, .bool, ref07_May k⟩), (115, ⟨(.slice T_api_Atom), (.slice T_api_Atom), ref06_Norm k⟩), (120, ⟨(.pair T_api_Shape T_api_Field), T_api_Shape, ref07_With k⟩)]) tabOk (.cons (ref07_May_spec k) f109_at f109_ok <| .cons (ref06_Norm_spec k) f115_at f115_ok <| .cons (ref07_With_spec k) f120_at f120_ok <| .nil) codesOk mixedOk (fun _ _ _ _ => trivial) (hmp := mapsOk)) f54_at (fun x => (ref07_Strong_eq k x).symm)
noncomputable def ref19_New : (k : Nat) → (Ty.D (.pair (.slice T_api_Obj) T_api_Obj)) → Option (Ty.D (.pair (.slice T_api_Obj) (.pair T_api_Val .bool))) := fun (k : Nat) (x : (T_api_Obj.slice.pair T_api_Obj).D) => P.cond (P.room (P.add (P.len (P.nil (List (ByteArray × Int × Int) × Int × Int))) (P.len x.fst)) 40) (P.cond (P.room (P.add (P.len (P.app [] x.fst)) (P.len [x.snd])) 40) (P.bind (ref19_May k (P.app (P.app [] x.fst) [x.snd])) fun (r : Bool) => P.cond (P.not r) (some ([], ((0 : Int), (0 : Int)), false)) (some (P.app (P.app [] x.fst) [x.snd], ((4 : Int), P.len x.fst), true))) none) none
theorem ref19_New_eq (k : Nat) (x : (Ty.D (.pair (.slice T_api_Obj) T_api_Obj))) : evFn (EN k [(24, ⟨(.slice T_api_Obj), .bool, ref19_May k⟩)]) 6 Try.f52 [] (.pair (.slice T_api_Obj) T_api_Obj) (.pair (.slice T_api_Obj) (.pair T_api_Val .bool)) x = ref19_New k x := by kernel_rfl
theorem ref19_New_spec (k : Nat) : SpecOk Try.prog GG 52 ⟨(.pair (.slice T_api_Obj) T_api_Obj), (.pair (.slice T_api_Obj) (.pair T_api_Val .bool)), ref19_New k⟩ :=
  fn_spec (envOk (E := EN k [(24, ⟨(.slice T_api_Obj), .bool, ref19_May k⟩)]) tabOk (.cons (ref19_May_spec k) f24_at f24_ok <| .nil) codesOk mixedOk (fun _ _ _ _ => trivial) (hmp := mapsOk)) f52_at (fun x => (ref19_New_eq k x).symm)
noncomputable def ref21_Set : (k : Nat) → (Ty.D (.pair T_api_Frame (.pair .str T_api_Val))) → Option (Ty.D T_api_Frame) := fun (k : Nat) (x : (T_api_Frame.pair (Ty.str.pair T_api_Val)).D) => P.bind (ref19_With k (x.fst.fst, x.snd.fst, x.snd.snd)) fun (r : List (ByteArray × Int × Int)) => some (r, x.fst.snd)
theorem ref21_Set_eq (k : Nat) (x : (Ty.D (.pair T_api_Frame (.pair .str T_api_Val)))) : evFn (EN k [(116, ⟨(.pair (.slice T_api_Prop) (.pair .str T_api_Val)), (.slice T_api_Prop), ref19_With k⟩)]) 6 Try.f53 [] (.pair T_api_Frame (.pair .str T_api_Val)) T_api_Frame x = ref21_Set k x := by kernel_rfl
theorem ref21_Set_spec (k : Nat) : SpecOk Try.prog GG 53 ⟨(.pair T_api_Frame (.pair .str T_api_Val)), T_api_Frame, ref21_Set k⟩ :=
  fn_spec (envOk (E := EN k [(116, ⟨(.pair (.slice T_api_Prop) (.pair .str T_api_Val)), (.slice T_api_Prop), ref19_With k⟩)]) tabOk (.cons (ref19_With_spec k) f116_at f116_ok <| .nil) codesOk mixedOk (fun _ _ _ _ => trivial) (hmp := mapsOk)) f53_at (fun x => (ref21_Set_eq k x).symm)
noncomputable def ref08_Put : (k : Nat) → (Ty.D (.pair T_api_State (.pair T_api_Atom T_api_Shape))) → Option (Ty.D T_api_State) := fun (k : Nat) (x : (T_api_State.pair (T_api_Atom.pair T_api_Shape)).D) => P.bind (ref08_May k x.fst) fun (r : Bool) => P.cond (P.not r) (some (false, [], [])) (P.bind (ref08_Place k x.snd.fst) fun (r : Bool) => P.cond (P.not r) (some (false, [], [])) (P.bind (ref07_May k x.snd.snd) fun (r : Bool) => P.cond (P.not r) (some (false, [], [])) (P.cond x.fst.fst (some x.fst) (P.bind (P.iter k (fun (y : Bool × Int × Bool × List (ByteArray × List (Int × Int)) × List ((Int × Int) × List (ByteArray × Bool × List (Int × Int)) × List (Int × Int))) => P.cond (P.ilt y.snd.fst (P.len x.fst.snd.snd)) (P.cond (P.not y.fst) (P.cond (P.inb y.snd.fst (P.len x.fst.snd.snd)) (P.bind (ref06_Less k ((P.get x.fst.snd.snd y.snd.fst (((0 : Int), (0 : Int)), [], [])).fst, x.snd.fst)) fun (r : Bool) => P.cond (P.not r) (P.cond (P.room (P.add (P.len y.snd.snd.snd.snd) (P.len [(x.snd.fst, x.snd.snd)])) 64) (P.cond (P.inb y.snd.fst (P.len x.fst.snd.snd)) (P.cond (P.not (P.and (P.ieq (P.get x.fst.snd.snd y.snd.fst (((0 : Int), (0 : Int)), [], [])).fst.fst x.snd.fst.fst) (P.ieq (P.get x.fst.snd.snd y.snd.fst (((0 : Int), (0 : Int)), [], [])).fst.snd x.snd.fst.snd))) (P.cond (P.inb y.snd.fst (P.len x.fst.snd.snd)) (P.cond (P.room (P.add (P.len (P.app y.snd.snd.snd.snd [(x.snd.fst, x.snd.snd)])) (P.len [P.get x.fst.snd.snd y.snd.fst (((0 : Int), (0 : Int)), [], [])])) 64) (some (Sum.inl (true, P.wrap IntKind.i64 (P.add y.snd.fst ((1 : Int))), y.snd.snd.fst, y.snd.snd.snd.fst, P.app (P.app y.snd.snd.snd.snd [(x.snd.fst, x.snd.snd)]) [P.get x.fst.snd.snd y.snd.fst (((0 : Int), (0 : Int)), [], [])]))) none) none) (some (Sum.inl (true, P.wrap IntKind.i64 (P.add y.snd.fst ((1 : Int))), y.snd.snd.fst, y.snd.snd.snd.fst, P.app y.snd.snd.snd.snd [(x.snd.fst, x.snd.snd)])))) none) none) (P.cond (P.inb y.snd.fst (P.len x.fst.snd.snd)) (P.cond (P.not (P.and (P.ieq (P.get x.fst.snd.snd y.snd.fst (((0 : Int), (0 : Int)), [], [])).fst.fst x.snd.fst.fst) (P.ieq (P.get x.fst.snd.snd y.snd.fst (((0 : Int), (0 : Int)), [], [])).fst.snd x.snd.fst.snd))) (P.cond (P.inb y.snd.fst (P.len x.fst.snd.snd)) (P.cond (P.room (P.add (P.len y.snd.snd.snd.snd) (P.len [P.get x.fst.snd.snd y.snd.fst (((0 : Int), (0 : Int)), [], [])])) 64) (some (Sum.inl (y.fst, P.wrap IntKind.i64 (P.add y.snd.fst ((1 : Int))), y.snd.snd.fst, y.snd.snd.snd.fst, P.app y.snd.snd.snd.snd [P.get x.fst.snd.snd y.snd.fst (((0 : Int), (0 : Int)), [], [])]))) none) none) (some (Sum.inl (y.fst, P.wrap IntKind.i64 (P.add y.snd.fst ((1 : Int))), y.snd.snd.fst, y.snd.snd.snd.fst, y.snd.snd.snd.snd)))) none)) none) (P.cond (P.inb y.snd.fst (P.len x.fst.snd.snd)) (P.cond (P.not (P.and (P.ieq (P.get x.fst.snd.snd y.snd.fst (((0 : Int), (0 : Int)), [], [])).fst.fst x.snd.fst.fst) (P.ieq (P.get x.fst.snd.snd y.snd.fst (((0 : Int), (0 : Int)), [], [])).fst.snd x.snd.fst.snd))) (P.cond (P.inb y.snd.fst (P.len x.fst.snd.snd)) (P.cond (P.room (P.add (P.len y.snd.snd.snd.snd) (P.len [P.get x.fst.snd.snd y.snd.fst (((0 : Int), (0 : Int)), [], [])])) 64) (some (Sum.inl (y.fst, P.wrap IntKind.i64 (P.add y.snd.fst ((1 : Int))), y.snd.snd.fst, y.snd.snd.snd.fst, P.app y.snd.snd.snd.snd [P.get x.fst.snd.snd y.snd.fst (((0 : Int), (0 : Int)), [], [])]))) none) none) (some (Sum.inl (y.fst, P.wrap IntKind.i64 (P.add y.snd.fst ((1 : Int))), y.snd.snd.fst, y.snd.snd.snd.fst, y.snd.snd.snd.snd)))) none)) (some (Sum.inr (Sum.inl (y.fst, y.snd.snd.fst, y.snd.snd.snd.fst, y.snd.snd.snd.snd))))) (false, (0 : Int), false, x.fst.snd.fst, [])) (P.either (fun (z : Bool × Bool × List (ByteArray × List (Int × Int)) × List ((Int × Int) × List (ByteArray × Bool × List (Int × Int)) × List (Int × Int))) => P.cond (P.not z.fst) (P.cond (P.room (P.add (P.len z.snd.snd.snd) (P.len [(x.snd.fst, x.snd.snd)])) 64) (some (z.snd.fst, z.snd.snd.fst, P.app z.snd.snd.snd [(x.snd.fst, x.snd.snd)])) none) (some (z.snd.fst, z.snd.snd.fst, z.snd.snd.snd))) fun (r : Bool × List (ByteArray × List (Int × Int)) × List ((Int × Int) × List (ByteArray × Bool × List (Int × Int)) × List (Int × Int))) => some r)))))
theorem ref08_Put_eq (k : Nat) (x : (Ty.D (.pair T_api_State (.pair T_api_Atom T_api_Shape)))) : evFn (EN k [(41, ⟨T_api_State, .bool, ref08_May k⟩), (108, ⟨T_api_Atom, .bool, ref08_Place k⟩), (109, ⟨T_api_Shape, .bool, ref07_May k⟩), (110, ⟨(.pair T_api_Atom T_api_Atom), .bool, ref06_Less k⟩)]) 6 Try.f121 [(9, ⟨[.var 9 (.d .bool), .var 10 (.d (.int .i64)), .box 7 [] (.s (.p (.d .bool) (.p (.d (.slice (.st (.pair .str (.slice (.st (.pair (.int .i64) (.int .i64)))))))) (.o (.st (.pair (.st (.pair (.int .i64) (.int .i64))) (.st (.pair (.slice (.st (.pair .str (.pair .bool (.slice (.st (.pair (.int .i64) (.int .i64)))))))) (.slice (.st (.pair (.int .i64) (.int .i64))))))))))))], [], (some (0, [.var 9 (.d .bool), .box 7 [] (.s (.p (.d .bool) (.p (.d (.slice (.st (.pair .str (.slice (.st (.pair (.int .i64) (.int .i64)))))))) (.o (.st (.pair (.st (.pair (.int .i64) (.int .i64))) (.st (.pair (.slice (.st (.pair .str (.pair .bool (.slice (.st (.pair (.int .i64) (.int .i64)))))))) (.slice (.st (.pair (.int .i64) (.int .i64))))))))))))]))⟩)] (.pair T_api_State (.pair T_api_Atom T_api_Shape)) T_api_State x = ref08_Put k x := by kernel_rfl
theorem ref08_Put_spec (k : Nat) : SpecOk Try.prog GG 121 ⟨(.pair T_api_State (.pair T_api_Atom T_api_Shape)), T_api_State, ref08_Put k⟩ :=
  fn_spec (envOk (E := EN k [(41, ⟨T_api_State, .bool, ref08_May k⟩), (108, ⟨T_api_Atom, .bool, ref08_Place k⟩), (109, ⟨T_api_Shape, .bool, ref07_May k⟩), (110, ⟨(.pair T_api_Atom T_api_Atom), .bool, ref06_Less k⟩)]) tabOk (.cons (ref08_May_spec k) f41_at f41_ok <| .cons (ref08_Place_spec k) f108_at f108_ok <| .cons (ref07_May_spec k) f109_at f109_ok <| .cons (ref06_Less_spec k) f110_at f110_ok <| .nil) codesOk mixedOk (fun _ _ _ _ => trivial) (hmp := mapsOk)) f121_at (fun x => (ref08_Put_eq k x).symm)
noncomputable def ref06_Rename : (k : Nat) → (Ty.D (.pair (.slice T_api_Atom) (.int .i64))) → Option (Ty.D (.slice T_api_Atom)) := fun (k : Nat) (x : (T_api_Atom.slice.pair (Ty.int IntKind.i64)).D) => P.bind (P.iter k (fun (y : List (Int × Int) × Int) => P.cond (P.ilt y.snd (P.len x.fst)) (P.cond (P.inb y.snd (P.len x.fst)) (P.cond (P.ieq (P.get x.fst y.snd ((0 : Int), (0 : Int))).fst ((4 : Int))) (P.cond (P.ieq (P.get x.fst y.snd ((0 : Int), (0 : Int))).snd x.snd) (P.cond (P.room (P.add (P.len y.fst) (P.len [((5 : Int), (P.get x.fst y.snd ((0 : Int), (0 : Int))).snd)])) 16) (some (Sum.inl (P.app y.fst [((5 : Int), (P.get x.fst y.snd ((0 : Int), (0 : Int))).snd)], P.wrap IntKind.i64 (P.add y.snd ((1 : Int)))))) none) (P.cond (P.room (P.add (P.len y.fst) (P.len [P.get x.fst y.snd ((0 : Int), (0 : Int))])) 16) (some (Sum.inl (P.app y.fst [P.get x.fst y.snd ((0 : Int), (0 : Int))], P.wrap IntKind.i64 (P.add y.snd ((1 : Int)))))) none)) (P.cond (P.room (P.add (P.len y.fst) (P.len [P.get x.fst y.snd ((0 : Int), (0 : Int))])) 16) (some (Sum.inl (P.app y.fst [P.get x.fst y.snd ((0 : Int), (0 : Int))], P.wrap IntKind.i64 (P.add y.snd ((1 : Int)))))) none)) none) (some (Sum.inr (Sum.inl y.fst)))) ([], (0 : Int))) (P.either (fun (z : List (Int × Int)) => P.bind (ref06_Norm k z) fun (r : List (Int × Int)) => some r) fun (r : List (Int × Int)) => some r)
theorem ref06_Rename_eq (k : Nat) (x : (Ty.D (.pair (.slice T_api_Atom) (.int .i64)))) : evFn (EN k [(115, ⟨(.slice T_api_Atom), (.slice T_api_Atom), ref06_Norm k⟩)]) 6 Try.f153 [(3, ⟨[.var 5 (.o (.st (.pair (.int .i64) (.int .i64)))), .var 6 (.d (.int .i64))], [], (some (0, [.var 5 (.o (.st (.pair (.int .i64) (.int .i64))))]))⟩)] (.pair (.slice T_api_Atom) (.int .i64)) (.slice T_api_Atom) x = ref06_Rename k x := by kernel_rfl
theorem ref06_Rename_spec (k : Nat) : SpecOk Try.prog GG 153 ⟨(.pair (.slice T_api_Atom) (.int .i64)), (.slice T_api_Atom), ref06_Rename k⟩ :=
  fn_spec (envOk (E := EN k [(115, ⟨(.slice T_api_Atom), (.slice T_api_Atom), ref06_Norm k⟩)]) tabOk (.cons (ref06_Norm_spec k) f115_at f115_ok <| .nil) codesOk mixedOk (fun _ _ _ _ => trivial) (hmp := mapsOk)) f153_at (fun x => (ref06_Rename_eq k x).symm)
noncomputable def ref07_Rename : (k : Nat) → (Ty.D (.pair T_api_Shape (.int .i64))) → Option (Ty.D T_api_Shape) := fun (k : Nat) (x : (T_api_Shape.pair (Ty.int IntKind.i64)).D) => P.bind (ref07_May k x.fst) fun (r : Bool) => P.cond (P.not r) (some ([], [])) (P.bind (ref06_Rename k (x.fst.snd, x.snd)) fun (r : List (Int × Int)) => P.bind (P.iter k (fun (y : Int × List (ByteArray × Bool × List (Int × Int)) × List (Int × Int)) => P.cond (P.ilt y.fst (P.len x.fst.fst)) (P.cond (P.inb y.fst (P.len x.fst.fst)) (P.bind (ref06_Rename k ((P.get x.fst.fst y.fst ((ByteArray.mk #[]), false, [])).snd.snd, x.snd)) fun (r : List (Int × Int)) => P.cond (P.room (P.add (P.len y.snd.fst) (P.len [((P.get x.fst.fst y.fst ((ByteArray.mk #[]), false, [])).fst, (P.get x.fst.fst y.fst ((ByteArray.mk #[]), false, [])).snd.fst, r)])) 48) (some (Sum.inl (P.wrap IntKind.i64 (P.add y.fst ((1 : Int))), P.app y.snd.fst [((P.get x.fst.fst y.fst ((ByteArray.mk #[]), false, [])).fst, (P.get x.fst.fst y.fst ((ByteArray.mk #[]), false, [])).snd.fst, r)], y.snd.snd))) none) none) (some (Sum.inr (Sum.inl (y.snd.fst, y.snd.snd))))) ((0 : Int), [], r)) (P.either (fun (z : List (ByteArray × Bool × List (Int × Int)) × List (Int × Int)) => some (z.fst, z.snd)) fun (r : List (ByteArray × Bool × List (Int × Int)) × List (Int × Int)) => some r))
theorem ref07_Rename_eq (k : Nat) (x : (Ty.D (.pair T_api_Shape (.int .i64)))) : evFn (EN k [(109, ⟨T_api_Shape, .bool, ref07_May k⟩), (153, ⟨(.pair (.slice T_api_Atom) (.int .i64)), (.slice T_api_Atom), ref06_Rename k⟩)]) 6 Try.f123 [(5, ⟨[.var 6 (.d (.int .i64)), .box 5 [] (.s (.p (.o (.st (.pair .str (.pair .bool (.slice (.st (.pair (.int .i64) (.int .i64)))))))) (.d (.slice (.st (.pair (.int .i64) (.int .i64)))))))], [], (some (0, [.box 5 [] (.s (.p (.o (.st (.pair .str (.pair .bool (.slice (.st (.pair (.int .i64) (.int .i64)))))))) (.d (.slice (.st (.pair (.int .i64) (.int .i64)))))))]))⟩)] (.pair T_api_Shape (.int .i64)) T_api_Shape x = ref07_Rename k x := by kernel_rfl
theorem ref07_Rename_spec (k : Nat) : SpecOk Try.prog GG 123 ⟨(.pair T_api_Shape (.int .i64)), T_api_Shape, ref07_Rename k⟩ :=
  fn_spec (envOk (E := EN k [(109, ⟨T_api_Shape, .bool, ref07_May k⟩), (153, ⟨(.pair (.slice T_api_Atom) (.int .i64)), (.slice T_api_Atom), ref06_Rename k⟩)]) tabOk (.cons (ref07_May_spec k) f109_at f109_ok <| .cons (ref06_Rename_spec k) f153_at f153_ok <| .nil) codesOk mixedOk (fun _ _ _ _ => trivial) (hmp := mapsOk)) f123_at (fun x => (ref07_Rename_eq k x).symm)
noncomputable def ref07_Join : (k : Nat) → (Ty.D (.pair T_api_Shape T_api_Shape)) → Option (Ty.D T_api_Shape) := fun (k : Nat) (x : (T_api_Shape.pair T_api_Shape).D) => P.bind (ref07_May k x.fst) fun (r : Bool) => P.cond (P.not r) (some ([], [])) (P.bind (ref07_May k x.snd) fun (r : Bool) => P.cond (P.not r) (some ([], [])) (P.bind (ref06_Union k (x.fst.snd, x.snd.snd)) fun (r : List (Int × Int)) => P.bind (P.iter k (fun (y : Int × List (ByteArray × Bool × List (Int × Int)) × List (Int × Int)) => P.cond (P.ilt y.fst (P.wrap IntKind.i64 (P.add (P.len x.fst.fst) (P.len x.snd.fst)))) (P.cond (P.ilt y.fst (P.len x.fst.fst)) (P.cond (P.inb y.fst (P.len x.fst.fst)) (P.bind (ref07_Get k (x.fst, (P.get x.fst.fst y.fst ((ByteArray.mk #[]), false, [])).fst)) fun (r : (ByteArray × Bool × List (Int × Int)) × Bool) => P.bind (ref07_Get k (x.snd, (P.get x.fst.fst y.fst ((ByteArray.mk #[]), false, [])).fst)) fun (r_1 : (ByteArray × Bool × List (Int × Int)) × Bool) => P.cond r.snd (P.cond r_1.snd (P.cond r.fst.snd.fst (P.bind (ref06_Union k (r.fst.snd.snd, r_1.fst.snd.snd)) fun (r : List (Int × Int)) => P.bind (ref07_With k (y.snd, (P.get x.fst.fst y.fst ((ByteArray.mk #[]), false, [])).fst, r_1.fst.snd.fst, r)) fun (r : List (ByteArray × Bool × List (Int × Int)) × List (Int × Int)) => some (Sum.inl (P.wrap IntKind.i64 (P.add y.fst ((1 : Int))), r))) (P.bind (ref06_Union k (r.fst.snd.snd, r_1.fst.snd.snd)) fun (r : List (Int × Int)) => P.bind (ref07_With k (y.snd, (P.get x.fst.fst y.fst ((ByteArray.mk #[]), false, [])).fst, false, r)) fun (r : List (ByteArray × Bool × List (Int × Int)) × List (Int × Int)) => some (Sum.inl (P.wrap IntKind.i64 (P.add y.fst ((1 : Int))), r)))) (P.bind (ref06_Union k (r.fst.snd.snd, r_1.fst.snd.snd)) fun (r : List (Int × Int)) => P.bind (ref07_With k (y.snd, (P.get x.fst.fst y.fst ((ByteArray.mk #[]), false, [])).fst, false, r)) fun (r : List (ByteArray × Bool × List (Int × Int)) × List (Int × Int)) => some (Sum.inl (P.wrap IntKind.i64 (P.add y.fst ((1 : Int))), r)))) (P.bind (ref06_Union k (r.fst.snd.snd, r_1.fst.snd.snd)) fun (r : List (Int × Int)) => P.bind (ref07_With k (y.snd, (P.get x.fst.fst y.fst ((ByteArray.mk #[]), false, [])).fst, false, r)) fun (r : List (ByteArray × Bool × List (Int × Int)) × List (Int × Int)) => some (Sum.inl (P.wrap IntKind.i64 (P.add y.fst ((1 : Int))), r)))) none) (P.cond (P.inb (P.wrap IntKind.i64 (P.sub y.fst (P.len x.fst.fst))) (P.len x.snd.fst)) (P.bind (ref07_Get k (x.fst, (P.get x.snd.fst (P.wrap IntKind.i64 (P.sub y.fst (P.len x.fst.fst))) ((ByteArray.mk #[]), false, [])).fst)) fun (r : (ByteArray × Bool × List (Int × Int)) × Bool) => P.bind (ref07_Get k (x.snd, (P.get x.snd.fst (P.wrap IntKind.i64 (P.sub y.fst (P.len x.fst.fst))) ((ByteArray.mk #[]), false, [])).fst)) fun (r_1 : (ByteArray × Bool × List (Int × Int)) × Bool) => P.cond r.snd (P.cond r_1.snd (P.cond r.fst.snd.fst (P.bind (ref06_Union k (r.fst.snd.snd, r_1.fst.snd.snd)) fun (r : List (Int × Int)) => P.bind (ref07_With k (y.snd, (P.get x.snd.fst (P.wrap IntKind.i64 (P.sub y.fst (P.len x.fst.fst))) ((ByteArray.mk #[]), false, [])).fst, r_1.fst.snd.fst, r)) fun (r : List (ByteArray × Bool × List (Int × Int)) × List (Int × Int)) => some (Sum.inl (P.wrap IntKind.i64 (P.add y.fst ((1 : Int))), r))) (P.bind (ref06_Union k (r.fst.snd.snd, r_1.fst.snd.snd)) fun (r : List (Int × Int)) => P.bind (ref07_With k (y.snd, (P.get x.snd.fst (P.wrap IntKind.i64 (P.sub y.fst (P.len x.fst.fst))) ((ByteArray.mk #[]), false, [])).fst, false, r)) fun (r : List (ByteArray × Bool × List (Int × Int)) × List (Int × Int)) => some (Sum.inl (P.wrap IntKind.i64 (P.add y.fst ((1 : Int))), r)))) (P.bind (ref06_Union k (r.fst.snd.snd, r_1.fst.snd.snd)) fun (r : List (Int × Int)) => P.bind (ref07_With k (y.snd, (P.get x.snd.fst (P.wrap IntKind.i64 (P.sub y.fst (P.len x.fst.fst))) ((ByteArray.mk #[]), false, [])).fst, false, r)) fun (r : List (ByteArray × Bool × List (Int × Int)) × List (Int × Int)) => some (Sum.inl (P.wrap IntKind.i64 (P.add y.fst ((1 : Int))), r)))) (P.bind (ref06_Union k (r.fst.snd.snd, r_1.fst.snd.snd)) fun (r : List (Int × Int)) => P.bind (ref07_With k (y.snd, (P.get x.snd.fst (P.wrap IntKind.i64 (P.sub y.fst (P.len x.fst.fst))) ((ByteArray.mk #[]), false, [])).fst, false, r)) fun (r : List (ByteArray × Bool × List (Int × Int)) × List (Int × Int)) => some (Sum.inl (P.wrap IntKind.i64 (P.add y.fst ((1 : Int))), r)))) none)) (some (Sum.inr (Sum.inl y.snd)))) ((0 : Int), [], r)) (P.either (fun (z : List (ByteArray × Bool × List (Int × Int)) × List (Int × Int)) => some z) fun (r : List (ByteArray × Bool × List (Int × Int)) × List (Int × Int)) => some r)))
theorem ref07_Join_eq (k : Nat) (x : (Ty.D (.pair T_api_Shape T_api_Shape))) : evFn (EN k [(59, ⟨(.pair (.slice T_api_Atom) (.slice T_api_Atom)), (.slice T_api_Atom), ref06_Union k⟩), (91, ⟨(.pair T_api_Shape .str), (.pair T_api_Field .bool), ref07_Get k⟩), (109, ⟨T_api_Shape, .bool, ref07_May k⟩), (120, ⟨(.pair T_api_Shape T_api_Field), T_api_Shape, ref07_With k⟩)]) 6 Try.f154 [(5, ⟨[.var 6 (.d (.int .i64)), .box 5 [] (.d (.st (.pair (.slice (.st (.pair .str (.pair .bool (.slice (.st (.pair (.int .i64) (.int .i64)))))))) (.slice (.st (.pair (.int .i64) (.int .i64)))))))], [], (some (0, [.box 5 [] (.d (.st (.pair (.slice (.st (.pair .str (.pair .bool (.slice (.st (.pair (.int .i64) (.int .i64)))))))) (.slice (.st (.pair (.int .i64) (.int .i64)))))))]))⟩)] (.pair T_api_Shape T_api_Shape) T_api_Shape x = ref07_Join k x := by kernel_rfl
theorem ref07_Join_spec (k : Nat) : SpecOk Try.prog GG 154 ⟨(.pair T_api_Shape T_api_Shape), T_api_Shape, ref07_Join k⟩ :=
  fn_spec (envOk (E := EN k [(59, ⟨(.pair (.slice T_api_Atom) (.slice T_api_Atom)), (.slice T_api_Atom), ref06_Union k⟩), (91, ⟨(.pair T_api_Shape .str), (.pair T_api_Field .bool), ref07_Get k⟩), (109, ⟨T_api_Shape, .bool, ref07_May k⟩), (120, ⟨(.pair T_api_Shape T_api_Field), T_api_Shape, ref07_With k⟩)]) tabOk (.cons (ref06_Union_spec k) f59_at f59_ok <| .cons (ref07_Get_spec k) f91_at f91_ok <| .cons (ref07_May_spec k) f109_at f109_ok <| .cons (ref07_With_spec k) f120_at f120_ok <| .nil) codesOk mixedOk (fun _ _ _ _ => trivial) (hmp := mapsOk)) f154_at (fun x => (ref07_Join_eq k x).symm)
noncomputable def ref09_Age : (k : Nat) → (Ty.D (.pair T_api_State (.int .i64))) → Option (Ty.D T_api_State) := fun (k : Nat) (x : (T_api_State.pair (Ty.int IntKind.i64)).D) => P.cond (P.ilt x.snd ((0 : Int))) (some (false, [], [])) (P.bind (ref08_May k x.fst) fun (r : Bool) => P.cond (P.not r) (some (false, [], [])) (P.cond x.fst.fst (some x.fst) (P.bind (P.iter k (fun (y : Int × Bool × List (ByteArray × List (Int × Int)) × List ((Int × Int) × List (ByteArray × Bool × List (Int × Int)) × List (Int × Int))) => P.cond (P.ilt y.fst (P.len x.fst.snd.fst)) (P.cond (P.inb y.fst (P.len x.fst.snd.fst)) (P.cond (P.inb y.fst (P.len x.fst.snd.fst)) (P.bind (ref06_Rename k ((P.get x.fst.snd.fst y.fst ((ByteArray.mk #[]), [])).snd, x.snd)) fun (r : List (Int × Int)) => P.cond (P.room (P.add (P.len y.snd.snd.fst) (P.len [((P.get x.fst.snd.fst y.fst ((ByteArray.mk #[]), [])).fst, r)])) 40) (some (Sum.inl (P.wrap IntKind.i64 (P.add y.fst ((1 : Int))), y.snd.fst, P.app y.snd.snd.fst [((P.get x.fst.snd.fst y.fst ((ByteArray.mk #[]), [])).fst, r)], y.snd.snd.snd))) none) none) none) (some (Sum.inr (Sum.inl (y.snd.fst, y.snd.snd.fst, y.snd.snd.snd))))) ((0 : Int), false, [], [])) (P.either (fun (z : Bool × List (ByteArray × List (Int × Int)) × List ((Int × Int) × List (ByteArray × Bool × List (Int × Int)) × List (Int × Int))) => P.bind (P.iter k (fun (y : Int × Bool × List (ByteArray × List (Int × Int)) × List ((Int × Int) × List (ByteArray × Bool × List (Int × Int)) × List (Int × Int))) => P.cond (P.ilt y.fst (P.len x.fst.snd.snd)) (P.cond (P.inb y.fst (P.len x.fst.snd.snd)) (P.cond (P.not (P.and (P.ieq (P.get x.fst.snd.snd y.fst (((0 : Int), (0 : Int)), [], [])).fst.fst ((4 : Int))) (P.ieq (P.get x.fst.snd.snd y.fst (((0 : Int), (0 : Int)), [], [])).fst.snd x.snd))) (P.cond (P.inb y.fst (P.len x.fst.snd.snd)) (P.cond (P.inb y.fst (P.len x.fst.snd.snd)) (P.bind (ref07_Rename k ((P.get x.fst.snd.snd y.fst (((0 : Int), (0 : Int)), [], [])).snd, x.snd)) fun (r : List (ByteArray × Bool × List (Int × Int)) × List (Int × Int)) => P.cond (P.room (P.add (P.len y.snd.snd.snd) (P.len [((P.get x.fst.snd.snd y.fst (((0 : Int), (0 : Int)), [], [])).fst, r)])) 64) (some (Sum.inl (P.wrap IntKind.i64 (P.add y.fst ((1 : Int))), y.snd.fst, y.snd.snd.fst, P.app y.snd.snd.snd [((P.get x.fst.snd.snd y.fst (((0 : Int), (0 : Int)), [], [])).fst, r)]))) none) none) none) (some (Sum.inl (P.wrap IntKind.i64 (P.add y.fst ((1 : Int))), y.snd.fst, y.snd.snd.fst, y.snd.snd.snd)))) none) (some (Sum.inr (Sum.inl (y.snd.fst, y.snd.snd.fst, y.snd.snd.snd))))) ((0 : Int), z.fst, z.snd.fst, z.snd.snd)) (P.either (fun (z : Bool × List (ByteArray × List (Int × Int)) × List ((Int × Int) × List (ByteArray × Bool × List (Int × Int)) × List (Int × Int))) => P.bind (ref08_Loc k (x.fst, (4 : Int), x.snd)) fun (r : (List (ByteArray × Bool × List (Int × Int)) × List (Int × Int)) × Bool) => P.bind (ref08_Loc k (x.fst, (5 : Int), x.snd)) fun (r_1 : (List (ByteArray × Bool × List (Int × Int)) × List (Int × Int)) × Bool) => P.cond r.snd (P.cond r_1.snd (P.bind (ref07_Rename k (r.fst, x.snd)) fun (r_2 : List (ByteArray × Bool × List (Int × Int)) × List (Int × Int)) => P.bind (ref07_Rename k (r_1.fst, x.snd)) fun (r_3 : List (ByteArray × Bool × List (Int × Int)) × List (Int × Int)) => P.bind (ref07_Join k (r_2, r_3)) fun (r_4 : List (ByteArray × Bool × List (Int × Int)) × List (Int × Int)) => P.bind (ref08_Put k ((z.fst, z.snd.fst, z.snd.snd), ((5 : Int), x.snd), r_4)) fun (r_5 : Bool × List (ByteArray × List (Int × Int)) × List ((Int × Int) × List (ByteArray × Bool × List (Int × Int)) × List (Int × Int))) => P.cond r.snd (P.cond (P.not r_1.snd) (P.bind (ref07_Rename k (r.fst, x.snd)) fun (r : List (ByteArray × Bool × List (Int × Int)) × List (Int × Int)) => P.bind (ref08_Put k (r_5, ((5 : Int), x.snd), r)) fun (r : Bool × List (ByteArray × List (Int × Int)) × List ((Int × Int) × List (ByteArray × Bool × List (Int × Int)) × List (Int × Int))) => some r) (some r_5)) (some r_5)) (P.cond r.snd (P.cond (P.not r_1.snd) (P.bind (ref07_Rename k (r.fst, x.snd)) fun (r : List (ByteArray × Bool × List (Int × Int)) × List (Int × Int)) => P.bind (ref08_Put k ((z.fst, z.snd.fst, z.snd.snd), ((5 : Int), x.snd), r)) fun (r : Bool × List (ByteArray × List (Int × Int)) × List ((Int × Int) × List (ByteArray × Bool × List (Int × Int)) × List (Int × Int))) => some r) (some (z.fst, z.snd.fst, z.snd.snd))) (some (z.fst, z.snd.fst, z.snd.snd)))) (P.cond r.snd (P.cond (P.not r_1.snd) (P.bind (ref07_Rename k (r.fst, x.snd)) fun (r : List (ByteArray × Bool × List (Int × Int)) × List (Int × Int)) => P.bind (ref08_Put k ((z.fst, z.snd.fst, z.snd.snd), ((5 : Int), x.snd), r)) fun (r : Bool × List (ByteArray × List (Int × Int)) × List ((Int × Int) × List (ByteArray × Bool × List (Int × Int)) × List (Int × Int))) => some r) (some (z.fst, z.snd.fst, z.snd.snd))) (some (z.fst, z.snd.fst, z.snd.snd)))) fun (r : Bool × List (ByteArray × List (Int × Int)) × List ((Int × Int) × List (ByteArray × Bool × List (Int × Int)) × List (Int × Int))) => some r)) fun (r : Bool × List (ByteArray × List (Int × Int)) × List ((Int × Int) × List (ByteArray × Bool × List (Int × Int)) × List (Int × Int))) => some r))))
noncomputable abbrev EN122 (k : Nat) (sp : List (Nat × Go.PG.Spec)) : Go.PG.Env := { T := T, specs := sp, codes := codes, k := k, calm := [168, 0, 2], maps := [(146, (.int .i64), .bool)] }
theorem ref09_Age_eq (k : Nat) (x : (Ty.D (.pair T_api_State (.int .i64)))) : evFn (EN122 k [(41, ⟨T_api_State, .bool, ref08_May k⟩), (99, ⟨(.pair T_api_State T_api_Atom), (.pair T_api_Shape .bool), ref08_Loc k⟩), (121, ⟨(.pair T_api_State (.pair T_api_Atom T_api_Shape)), T_api_State, ref08_Put k⟩), (123, ⟨(.pair T_api_Shape (.int .i64)), T_api_Shape, ref07_Rename k⟩), (153, ⟨(.pair (.slice T_api_Atom) (.int .i64)), (.slice T_api_Atom), ref06_Rename k⟩), (154, ⟨(.pair T_api_Shape T_api_Shape), T_api_Shape, ref07_Join k⟩)]) 6 Try.f122 [(8, ⟨[.var 8 (.d (.int .i64)), .box 7 [] (.s (.p (.d .bool) (.p (.o (.st (.pair .str (.slice (.st (.pair (.int .i64) (.int .i64))))))) (.o (.st (.pair (.st (.pair (.int .i64) (.int .i64))) (.st (.pair (.slice (.st (.pair .str (.pair .bool (.slice (.st (.pair (.int .i64) (.int .i64)))))))) (.slice (.st (.pair (.int .i64) (.int .i64))))))))))))], [], (some (0, [.box 7 [] (.s (.p (.d .bool) (.p (.o (.st (.pair .str (.slice (.st (.pair (.int .i64) (.int .i64))))))) (.o (.st (.pair (.st (.pair (.int .i64) (.int .i64))) (.st (.pair (.slice (.st (.pair .str (.pair .bool (.slice (.st (.pair (.int .i64) (.int .i64)))))))) (.slice (.st (.pair (.int .i64) (.int .i64))))))))))))]))⟩), (12, ⟨[.var 9 (.d (.int .i64)), .box 7 [] (.s (.p (.d .bool) (.p (.o (.st (.pair .str (.slice (.st (.pair (.int .i64) (.int .i64))))))) (.o (.st (.pair (.st (.pair (.int .i64) (.int .i64))) (.st (.pair (.slice (.st (.pair .str (.pair .bool (.slice (.st (.pair (.int .i64) (.int .i64)))))))) (.slice (.st (.pair (.int .i64) (.int .i64))))))))))))], [], (some (2, [.box 7 [] (.s (.p (.d .bool) (.p (.o (.st (.pair .str (.slice (.st (.pair (.int .i64) (.int .i64))))))) (.o (.st (.pair (.st (.pair (.int .i64) (.int .i64))) (.st (.pair (.slice (.st (.pair .str (.pair .bool (.slice (.st (.pair (.int .i64) (.int .i64)))))))) (.slice (.st (.pair (.int .i64) (.int .i64))))))))))))]))⟩)] (.pair T_api_State (.int .i64)) T_api_State x = ref09_Age k x := by kernel_rfl
theorem ref09_Age_spec (k : Nat) : SpecOk Try.prog GG 122 ⟨(.pair T_api_State (.int .i64)), T_api_State, ref09_Age k⟩ :=
  fn_spec (envOk (E := EN122 k [(41, ⟨T_api_State, .bool, ref08_May k⟩), (99, ⟨(.pair T_api_State T_api_Atom), (.pair T_api_Shape .bool), ref08_Loc k⟩), (121, ⟨(.pair T_api_State (.pair T_api_Atom T_api_Shape)), T_api_State, ref08_Put k⟩), (123, ⟨(.pair T_api_Shape (.int .i64)), T_api_Shape, ref07_Rename k⟩), (153, ⟨(.pair (.slice T_api_Atom) (.int .i64)), (.slice T_api_Atom), ref06_Rename k⟩), (154, ⟨(.pair T_api_Shape T_api_Shape), T_api_Shape, ref07_Join k⟩)]) tabOk (.cons (ref08_May_spec k) f41_at f41_ok <| .cons (ref08_Loc_spec k) f99_at f99_ok <| .cons (ref08_Put_spec k) f121_at f121_ok <| .cons (ref07_Rename_spec k) f123_at f123_ok <| .cons (ref06_Rename_spec k) f153_at f153_ok <| .cons (ref07_Join_spec k) f154_at f154_ok <| .nil) codesOk mixedOk (fun _ _ _ _ => trivial) (hmp := mapsOk)) f122_at (fun x => (ref09_Age_eq k x).symm)
noncomputable def ref08_Set : (k : Nat) → (Ty.D (.pair T_api_State (.pair .str (.slice T_api_Atom)))) → Option (Ty.D T_api_State) := fun (k : Nat) (x : (T_api_State.pair (Ty.str.pair T_api_Atom.slice)).D) => P.bind (ref08_May k x.fst) fun (r : Bool) => P.cond (P.not r) (some (false, [], [])) (P.cond x.fst.fst (some x.fst) (P.bind (ref06_Norm k x.snd.snd) fun (r : List (Int × Int)) => P.bind (P.iter k (fun (y : Bool × Int × Bool × List (ByteArray × List (Int × Int)) × List ((Int × Int) × List (ByteArray × Bool × List (Int × Int)) × List (Int × Int))) => P.cond (P.ilt y.snd.fst (P.len x.fst.snd.fst)) (P.cond (P.not y.fst) (P.cond (P.inb y.snd.fst (P.len x.fst.snd.fst)) (P.cond (P.sle x.snd.fst (P.get x.fst.snd.fst y.snd.fst ((ByteArray.mk #[]), [])).fst) (P.cond (P.room (P.add (P.len y.snd.snd.snd.fst) (P.len [(x.snd.fst, r)])) 40) (P.cond (P.inb y.snd.fst (P.len x.fst.snd.fst)) (P.cond (P.not (P.seq (P.get x.fst.snd.fst y.snd.fst ((ByteArray.mk #[]), [])).fst x.snd.fst)) (P.cond (P.inb y.snd.fst (P.len x.fst.snd.fst)) (P.cond (P.room (P.add (P.len (P.app y.snd.snd.snd.fst [(x.snd.fst, r)])) (P.len [P.get x.fst.snd.fst y.snd.fst ((ByteArray.mk #[]), [])])) 40) (some (Sum.inl (true, P.wrap IntKind.i64 (P.add y.snd.fst ((1 : Int))), y.snd.snd.fst, P.app (P.app y.snd.snd.snd.fst [(x.snd.fst, r)]) [P.get x.fst.snd.fst y.snd.fst ((ByteArray.mk #[]), [])], y.snd.snd.snd.snd))) none) none) (some (Sum.inl (true, P.wrap IntKind.i64 (P.add y.snd.fst ((1 : Int))), y.snd.snd.fst, P.app y.snd.snd.snd.fst [(x.snd.fst, r)], y.snd.snd.snd.snd)))) none) none) (P.cond (P.inb y.snd.fst (P.len x.fst.snd.fst)) (P.cond (P.not (P.seq (P.get x.fst.snd.fst y.snd.fst ((ByteArray.mk #[]), [])).fst x.snd.fst)) (P.cond (P.inb y.snd.fst (P.len x.fst.snd.fst)) (P.cond (P.room (P.add (P.len y.snd.snd.snd.fst) (P.len [P.get x.fst.snd.fst y.snd.fst ((ByteArray.mk #[]), [])])) 40) (some (Sum.inl (y.fst, P.wrap IntKind.i64 (P.add y.snd.fst ((1 : Int))), y.snd.snd.fst, P.app y.snd.snd.snd.fst [P.get x.fst.snd.fst y.snd.fst ((ByteArray.mk #[]), [])], y.snd.snd.snd.snd))) none) none) (some (Sum.inl (y.fst, P.wrap IntKind.i64 (P.add y.snd.fst ((1 : Int))), y.snd.snd.fst, y.snd.snd.snd.fst, y.snd.snd.snd.snd)))) none)) none) (P.cond (P.inb y.snd.fst (P.len x.fst.snd.fst)) (P.cond (P.not (P.seq (P.get x.fst.snd.fst y.snd.fst ((ByteArray.mk #[]), [])).fst x.snd.fst)) (P.cond (P.inb y.snd.fst (P.len x.fst.snd.fst)) (P.cond (P.room (P.add (P.len y.snd.snd.snd.fst) (P.len [P.get x.fst.snd.fst y.snd.fst ((ByteArray.mk #[]), [])])) 40) (some (Sum.inl (y.fst, P.wrap IntKind.i64 (P.add y.snd.fst ((1 : Int))), y.snd.snd.fst, P.app y.snd.snd.snd.fst [P.get x.fst.snd.fst y.snd.fst ((ByteArray.mk #[]), [])], y.snd.snd.snd.snd))) none) none) (some (Sum.inl (y.fst, P.wrap IntKind.i64 (P.add y.snd.fst ((1 : Int))), y.snd.snd.fst, y.snd.snd.snd.fst, y.snd.snd.snd.snd)))) none)) (some (Sum.inr (Sum.inl (y.fst, y.snd.snd.fst, y.snd.snd.snd.fst, y.snd.snd.snd.snd))))) (false, (0 : Int), false, [], x.fst.snd.snd)) (P.either (fun (z : Bool × Bool × List (ByteArray × List (Int × Int)) × List ((Int × Int) × List (ByteArray × Bool × List (Int × Int)) × List (Int × Int))) => P.cond (P.not z.fst) (P.cond (P.room (P.add (P.len z.snd.snd.fst) (P.len [(x.snd.fst, r)])) 40) (some (z.snd.fst, P.app z.snd.snd.fst [(x.snd.fst, r)], z.snd.snd.snd)) none) (some (z.snd.fst, z.snd.snd.fst, z.snd.snd.snd))) fun (r : Bool × List (ByteArray × List (Int × Int)) × List ((Int × Int) × List (ByteArray × Bool × List (Int × Int)) × List (Int × Int))) => some r)))
theorem ref08_Set_eq (k : Nat) (x : (Ty.D (.pair T_api_State (.pair .str (.slice T_api_Atom))))) : evFn (EN k [(41, ⟨T_api_State, .bool, ref08_May k⟩), (115, ⟨(.slice T_api_Atom), (.slice T_api_Atom), ref06_Norm k⟩)]) 6 Try.f124 [(9, ⟨[.var 9 (.d .bool), .var 10 (.d (.int .i64)), .box 7 [] (.s (.p (.d .bool) (.p (.o (.st (.pair .str (.slice (.st (.pair (.int .i64) (.int .i64))))))) (.d (.slice (.st (.pair (.st (.pair (.int .i64) (.int .i64))) (.st (.pair (.slice (.st (.pair .str (.pair .bool (.slice (.st (.pair (.int .i64) (.int .i64)))))))) (.slice (.st (.pair (.int .i64) (.int .i64)))))))))))))], [], (some (0, [.var 9 (.d .bool), .box 7 [] (.s (.p (.d .bool) (.p (.o (.st (.pair .str (.slice (.st (.pair (.int .i64) (.int .i64))))))) (.d (.slice (.st (.pair (.st (.pair (.int .i64) (.int .i64))) (.st (.pair (.slice (.st (.pair .str (.pair .bool (.slice (.st (.pair (.int .i64) (.int .i64)))))))) (.slice (.st (.pair (.int .i64) (.int .i64)))))))))))))]))⟩)] (.pair T_api_State (.pair .str (.slice T_api_Atom))) T_api_State x = ref08_Set k x := by kernel_rfl
theorem ref08_Set_spec (k : Nat) : SpecOk Try.prog GG 124 ⟨(.pair T_api_State (.pair .str (.slice T_api_Atom))), T_api_State, ref08_Set k⟩ :=
  fn_spec (envOk (E := EN k [(41, ⟨T_api_State, .bool, ref08_May k⟩), (115, ⟨(.slice T_api_Atom), (.slice T_api_Atom), ref06_Norm k⟩)]) tabOk (.cons (ref08_May_spec k) f41_at f41_ok <| .cons (ref06_Norm_spec k) f115_at f115_ok <| .nil) codesOk mixedOk (fun _ _ _ _ => trivial) (hmp := mapsOk)) f124_at (fun x => (ref08_Set_eq k x).symm)
end
section
open Go Go.PG Go.Proofs
set_option linter.all false
set_option maxRecDepth 1000000
set_option maxHeartbeats 4000000
noncomputable def ref09_Alloc : (k : Nat) → (Ty.D (.pair T_api_State (.pair .str (.pair (.int .i64) T_api_Shape)))) → Option (Ty.D T_api_State) := fun (k : Nat) (x : (T_api_State.pair (Ty.str.pair ((Ty.int IntKind.i64).pair T_api_Shape))).D) => P.cond (P.ilt x.snd.snd.fst ((0 : Int))) (some (false, [], [])) (P.bind (ref08_May k x.fst) fun (r : Bool) => P.cond (P.not r) (some (false, [], [])) (P.bind (ref07_May k x.snd.snd.snd) fun (r : Bool) => P.cond (P.not r) (some (false, [], [])) (P.cond x.fst.fst (some x.fst) (P.bind (ref09_Age k (x.fst, x.snd.snd.fst)) fun (r : Bool × List (ByteArray × List (Int × Int)) × List ((Int × Int) × List (ByteArray × Bool × List (Int × Int)) × List (Int × Int))) => P.bind (ref07_Rename k (x.snd.snd.snd, x.snd.snd.fst)) fun (r_1 : List (ByteArray × Bool × List (Int × Int)) × List (Int × Int)) => P.bind (ref08_Put k (r, ((4 : Int), x.snd.snd.fst), r_1)) fun (r : Bool × List (ByteArray × List (Int × Int)) × List ((Int × Int) × List (ByteArray × Bool × List (Int × Int)) × List (Int × Int))) => P.bind (ref08_Set k (r, x.snd.fst, [((4 : Int), x.snd.snd.fst)])) fun (r : Bool × List (ByteArray × List (Int × Int)) × List ((Int × Int) × List (ByteArray × Bool × List (Int × Int)) × List (Int × Int))) => some r))))
theorem ref09_Alloc_eq (k : Nat) (x : (Ty.D (.pair T_api_State (.pair .str (.pair (.int .i64) T_api_Shape))))) : evFn (EN k [(41, ⟨T_api_State, .bool, ref08_May k⟩), (109, ⟨T_api_Shape, .bool, ref07_May k⟩), (121, ⟨(.pair T_api_State (.pair T_api_Atom T_api_Shape)), T_api_State, ref08_Put k⟩), (122, ⟨(.pair T_api_State (.int .i64)), T_api_State, ref09_Age k⟩), (123, ⟨(.pair T_api_Shape (.int .i64)), T_api_Shape, ref07_Rename k⟩), (124, ⟨(.pair T_api_State (.pair .str (.slice T_api_Atom))), T_api_State, ref08_Set k⟩)]) 6 Try.f55 [] (.pair T_api_State (.pair .str (.pair (.int .i64) T_api_Shape))) T_api_State x = ref09_Alloc k x := by kernel_rfl
theorem ref09_Alloc_spec (k : Nat) : SpecOk Try.prog GG 55 ⟨(.pair T_api_State (.pair .str (.pair (.int .i64) T_api_Shape))), T_api_State, ref09_Alloc k⟩ :=
  fn_spec (envOk (E := EN k [(41, ⟨T_api_State, .bool, ref08_May k⟩), (109, ⟨T_api_Shape, .bool, ref07_May k⟩), (121, ⟨(.pair T_api_State (.pair T_api_Atom T_api_Shape)), T_api_State, ref08_Put k⟩), (122, ⟨(.pair T_api_State (.int .i64)), T_api_State, ref09_Age k⟩), (123, ⟨(.pair T_api_Shape (.int .i64)), T_api_Shape, ref07_Rename k⟩), (124, ⟨(.pair T_api_State (.pair .str (.slice T_api_Atom))), T_api_State, ref08_Set k⟩)]) tabOk (.cons (ref08_May_spec k) f41_at f41_ok <| .cons (ref07_May_spec k) f109_at f109_ok <| .cons (ref08_Put_spec k) f121_at f121_ok <| .cons (ref09_Age_spec k) f122_at f122_ok <| .cons (ref07_Rename_spec k) f123_at f123_ok <| .cons (ref08_Set_spec k) f124_at f124_ok <| .nil) codesOk mixedOk (fun _ _ _ _ => trivial) (hmp := mapsOk)) f55_at (fun x => (ref09_Alloc_eq k x).symm)
noncomputable def law21_ConformGrows : (k : Nat) → (Ty.D (.pair T_proteanlaw21_All (.pair T_proteanlaw21_Put (.int .i64)))) → Option (Ty.D .bool) := fun (k : Nat) (x : (T_proteanlaw21_All.pair (T_proteanlaw21_Put.pair (Ty.int IntKind.i64))).D) => P.bind (law21_fixed k PUnit.unit) fun (r : Bool) => P.cond (P.not r) (P.bind (law21_fixed k PUnit.unit) fun (r : Bool) => some r) (P.bind (law21_small k x.fst) fun (r : Bool) => P.cond (P.not r) (P.bind (law21_fixed k PUnit.unit) fun (r : Bool) => some r) (P.bind (ref08_May k x.fst.snd.snd) fun (r : Bool) => P.cond (P.not r) (P.bind (law21_fixed k PUnit.unit) fun (r : Bool) => some r) (P.bind (ref06_May k x.snd.fst.snd.snd.snd) fun (r : Bool) => P.cond (P.not r) (P.bind (law21_fixed k PUnit.unit) fun (r : Bool) => some r) (P.cond (P.ilt ((30 : Int)) (P.len x.snd.fst.snd.snd.snd)) (P.bind (law21_fixed k PUnit.unit) fun (r : Bool) => some r) (P.cond (P.ilt x.snd.snd ((0 : Int))) (P.bind (law21_fixed k PUnit.unit) fun (r : Bool) => some r) (P.cond (P.ilt ((20 : Int)) x.snd.snd) (P.bind (law21_fixed k PUnit.unit) fun (r : Bool) => some r) (P.bind (conform_May k (x.fst.fst, x.fst.snd.fst)) fun (r : Bool) => P.cond (P.not r) (P.bind (law21_fixed k PUnit.unit) fun (r : Bool) => some r) (P.bind (conform_State k (x.fst.fst, x.fst.snd.fst, x.fst.snd.snd)) fun (r : Bool) => P.cond (P.not r) (P.bind (law21_fixed k PUnit.unit) fun (r : Bool) => some r) (P.bind (conform_Value k (x.fst.fst, x.snd.fst.snd.snd.fst, x.snd.fst.snd.snd.snd)) fun (r : Bool) => P.cond (P.not r) (P.bind (law21_fixed k PUnit.unit) fun (r : Bool) => some r) (P.bind (ref21_Var k (x.fst.fst, x.snd.fst.fst)) fun (r : Int × Int) => P.bind (ref19_New k (x.fst.snd.fst, [(x.snd.fst.snd.fst, x.snd.fst.snd.snd.fst)], r)) fun (r : List (List (ByteArray × Int × Int) × Int × Int) × (Int × Int) × Bool) => P.cond (P.not r.snd.snd) (some true) (P.bind (conform_Fresh k (x.fst.fst, x.snd.snd, r.snd.fst.snd)) fun (r_1 : List (ByteArray × Int × Int) × List Int × List (List Int)) => P.bind (ref21_Set k (r_1, (ByteArray.mk #[110, 101, 119]), r.snd.fst)) fun (r_2 : List (ByteArray × Int × Int) × List Int × List (List Int)) => P.bind (ref08_Var k (x.fst.snd.snd, x.snd.fst.fst)) fun (r_3 : List (Int × Int)) => P.bind (ref07_Strong k (([], r_3), x.snd.fst.snd.fst, x.snd.fst.snd.snd.snd)) fun (r_4 : List (ByteArray × Bool × List (Int × Int)) × List (Int × Int)) => P.bind (ref09_Alloc k (x.fst.snd.snd, (ByteArray.mk #[110, 101, 119]), x.snd.snd, r_4)) fun (r_5 : Bool × List (ByteArray × List (Int × Int)) × List ((Int × Int) × List (ByteArray × Bool × List (Int × Int)) × List (Int × Int))) => P.bind (conform_State k (r_2, r.fst, r_5)) fun (r_6 : Bool) => P.cond r_6 (P.bind (conform_May k (r_2, r.fst)) fun (r : Bool) => some r) (some false))))))))))))
theorem law21_ConformGrows_eq (k : Nat) (x : (Ty.D (.pair T_proteanlaw21_All (.pair T_proteanlaw21_Put (.int .i64))))) : evFn (EN k [(26, ⟨T_proteanlaw21_All, .bool, law21_small k⟩), (27, ⟨.unit, .bool, law21_fixed k⟩), (30, ⟨(.pair T_api_Frame (.pair T_api_Val (.slice T_api_Atom))), .bool, conform_Value k⟩), (32, ⟨(.pair T_api_Frame (.pair (.slice T_api_Obj) T_api_State)), .bool, conform_State k⟩), (34, ⟨(.pair T_api_Frame (.slice T_api_Obj)), .bool, conform_May k⟩), (37, ⟨(.pair T_api_Frame (.pair (.int .i64) (.int .i64))), T_api_Frame, conform_Fresh k⟩), (41, ⟨T_api_State, .bool, ref08_May k⟩), (45, ⟨(.slice T_api_Atom), .bool, ref06_May k⟩), (47, ⟨(.pair T_api_Frame .str), T_api_Val, ref21_Var k⟩), (49, ⟨(.pair T_api_State .str), (.slice T_api_Atom), ref08_Var k⟩), (52, ⟨(.pair (.slice T_api_Obj) T_api_Obj), (.pair (.slice T_api_Obj) (.pair T_api_Val .bool)), ref19_New k⟩), (53, ⟨(.pair T_api_Frame (.pair .str T_api_Val)), T_api_Frame, ref21_Set k⟩), (54, ⟨(.pair T_api_Shape (.pair .str (.slice T_api_Atom))), T_api_Shape, ref07_Strong k⟩), (55, ⟨(.pair T_api_State (.pair .str (.pair (.int .i64) T_api_Shape))), T_api_State, ref09_Alloc k⟩)]) 6 Try.f12 [] (.pair T_proteanlaw21_All (.pair T_proteanlaw21_Put (.int .i64))) .bool x = law21_ConformGrows k x := by kernel_rfl
theorem law21_ConformGrows_spec (k : Nat) : SpecOk Try.prog GG 12 ⟨(.pair T_proteanlaw21_All (.pair T_proteanlaw21_Put (.int .i64))), .bool, law21_ConformGrows k⟩ :=
  fn_spec (envOk (E := EN k [(26, ⟨T_proteanlaw21_All, .bool, law21_small k⟩), (27, ⟨.unit, .bool, law21_fixed k⟩), (30, ⟨(.pair T_api_Frame (.pair T_api_Val (.slice T_api_Atom))), .bool, conform_Value k⟩), (32, ⟨(.pair T_api_Frame (.pair (.slice T_api_Obj) T_api_State)), .bool, conform_State k⟩), (34, ⟨(.pair T_api_Frame (.slice T_api_Obj)), .bool, conform_May k⟩), (37, ⟨(.pair T_api_Frame (.pair (.int .i64) (.int .i64))), T_api_Frame, conform_Fresh k⟩), (41, ⟨T_api_State, .bool, ref08_May k⟩), (45, ⟨(.slice T_api_Atom), .bool, ref06_May k⟩), (47, ⟨(.pair T_api_Frame .str), T_api_Val, ref21_Var k⟩), (49, ⟨(.pair T_api_State .str), (.slice T_api_Atom), ref08_Var k⟩), (52, ⟨(.pair (.slice T_api_Obj) T_api_Obj), (.pair (.slice T_api_Obj) (.pair T_api_Val .bool)), ref19_New k⟩), (53, ⟨(.pair T_api_Frame (.pair .str T_api_Val)), T_api_Frame, ref21_Set k⟩), (54, ⟨(.pair T_api_Shape (.pair .str (.slice T_api_Atom))), T_api_Shape, ref07_Strong k⟩), (55, ⟨(.pair T_api_State (.pair .str (.pair (.int .i64) T_api_Shape))), T_api_State, ref09_Alloc k⟩)]) tabOk (.cons (law21_small_spec k) f26_at f26_ok <| .cons (law21_fixed_spec k) f27_at f27_ok <| .cons (conform_Value_spec k) f30_at f30_ok <| .cons (conform_State_spec k) f32_at f32_ok <| .cons (conform_May_spec k) f34_at f34_ok <| .cons (conform_Fresh_spec k) f37_at f37_ok <| .cons (ref08_May_spec k) f41_at f41_ok <| .cons (ref06_May_spec k) f45_at f45_ok <| .cons (ref21_Var_spec k) f47_at f47_ok <| .cons (ref08_Var_spec k) f49_at f49_ok <| .cons (ref19_New_spec k) f52_at f52_ok <| .cons (ref21_Set_spec k) f53_at f53_ok <| .cons (ref07_Strong_spec k) f54_at f54_ok <| .cons (ref09_Alloc_spec k) f55_at f55_ok <| .nil) codesOk mixedOk (fun _ _ _ _ => trivial) (hmp := mapsOk)) f12_at (fun x => (law21_ConformGrows_eq k x).symm)
end
section
namespace Go.PL
open Go.PG
theorem cond_eq {α : Type} (b : Bool) (x y : α) : P.cond b x y = if b = true then x else y := by cases b <;> rfl
theorem cond_true {α : Type} (x y : α) : P.cond true x y = x := rfl
theorem cond_false {α : Type} (x y : α) : P.cond false x y = y := rfl
theorem bind_some {α β : Type} (a : α) (f : α → Option β) : P.bind (some a) f = f a := rfl
theorem either_inl {α β γ : Type} (f : α → γ) (g : β → γ) (a : α) : P.either f g (.inl a) = f a := rfl
theorem either_inr {α β γ : Type} (f : α → γ) (g : β → γ) (b : β) : P.either f g (.inr b) = g b := rfl
section
variable {τ ρ : Type} {f : τ → Option (τ ⊕ ρ)}
theorem iter_succ (k : Nat) (x : τ) : P.iter (k + 1) f x = match f x with
    | none => none
    | some (.inl y) => P.iter k f y
    | some (.inr r) => some r := rfl
theorem iter_step {k : Nat} {x y : τ} (hk : 0 < k) (h : f x = some (.inl y)) : P.iter k f x = P.iter (k - 1) f y := by
  obtain ⟨k, rfl⟩ : ∃ m, k = m + 1 := ⟨k - 1, by omega⟩
  rw [iter_succ, h]; rfl
theorem iter_done {k : Nat} {x : τ} {r : ρ} (hk : 0 < k) (h : f x = some (.inr r)) : P.iter k f x = some r := by
  obtain ⟨k, rfl⟩ : ∃ m, k = m + 1 := ⟨k - 1, by omega⟩
  rw [iter_succ, h]
theorem iter_run (s : Nat → τ) (r : ρ) : ∀ (n i k : Nat), n < k → (∀ j, j < n → f (s (i + j)) = some (.inl (s (i + j + 1)))) → f (s (i + n)) = some (.inr r) → P.iter k f (s i) = some r := by
  intro n
  induction n with
  | zero => intro i k hk _ he; exact iter_done (by omega) (by simpa using he)
  | succ n ih =>
    intro i k hk hs he
    rw [iter_step (x := s i) (y := s (i + 1)) (by omega) (by simpa using hs 0 (by omega))]
    refine ih (i + 1) (k - 1) (by omega) (fun j hj => ?_) (by rw [show i + 1 + n = i + (n + 1) by omega]; exact he)
    have := hs (j + 1) (by omega)
    rw [show i + 1 + j = i + (j + 1) by omega]
    exact this
theorem iter_find {f : Int → Option (Int ⊕ ρ)} {n : Nat} {e : ρ} (g : Nat → Option ρ) (hs : ∀ i : Nat, i < n → f (i : Int) = some (match g i with
    | none => .inl ((i + 1 : Nat) : Int)
    | some r => .inr r)) (he : f (n : Int) = some (.inr e)) : ∀ (d i k : Nat), i + d = n → d < k → P.iter k f (i : Int) = some (((List.range' i d).findSome? g).getD e) := by
  intro d
  induction d with
  | zero =>
    intro i k hi hk
    obtain rfl : i = n := by omega
    exact iter_done (by omega) he
  | succ d ih =>
    intro i k hi hk
    have h := hs i (by omega)
    rw [List.range'_succ, List.findSome?_cons]
    cases q : g i with
    | none =>
      rw [q] at h
      simp only at h ⊢
      rw [iter_step (by omega) h]
      exact ih (i + 1) (k - 1) (by omega) (by omega)
    | some r =>
      rw [q] at h
      simp only at h
      rw [iter_done (by omega) h]
      rfl
theorem iter_find0 {f : Int → Option (Int ⊕ ρ)} {n : Nat} {e : ρ} (g : Nat → Option ρ) (k : Nat) (hs : ∀ i : Nat, i < n → f (i : Int) = some (match g i with
    | none => .inl ((i + 1 : Nat) : Int)
    | some r => .inr r)) (he : f (n : Int) = some (.inr e)) (hk : n < k) : P.iter k f 0 = some (((List.range n).findSome? g).getD e) := by
  have := iter_find g hs he n 0 k (by omega) hk
  rw [List.range_eq_range']
  exact this
theorem iter_all {f : Int → Option (Int ⊕ ρ)} {n : Nat} {e r : ρ} (p : Nat → Prop) [DecidablePred p] (k : Nat) (hs : ∀ i : Nat, i < n → f (i : Int) = some (if p i then .inl ((i + 1 : Nat) : Int) else .inr r)) (he : f (n : Int) = some (.inr e)) (hk : n < k) :
    P.iter k f 0 = some (if ∀ i, i < n → p i then e else r) := by
  rw [iter_find0 (n := n) (e := e) (fun i => if p i then none else some r) k (fun i hi => by rw [hs i hi]; by_cases h : p i <;> simp [h]) he hk]
  by_cases h : ∀ i, i < n → p i
  · rw [if_pos h]
    have : (List.range n).findSome? (fun i => if p i then none else some r) = none := by
      rw [List.findSome?_eq_none_iff]
      intro i hi
      simp [h i (List.mem_range.1 hi)]
    rw [this]; rfl
  · rw [if_neg h]
    have hh : ∃ i, i < n ∧ ¬ p i := by
      apply Classical.byContradiction
      intro q
      exact h fun i hi => Classical.byContradiction fun z => q ⟨i, hi, z⟩
    obtain ⟨i, hi, hp⟩ := hh
    have : ∃ y, (List.range n).findSome? (fun i => if p i then none else some r) = some y := by
      rw [← Option.isSome_iff_exists, List.findSome?_isSome_iff]
      exact ⟨i, List.mem_range.2 hi, by simp [hp]⟩
    obtain ⟨y, hy⟩ := this
    rw [hy]
    obtain ⟨j, _, hj⟩ := List.exists_of_findSome?_eq_some hy
    by_cases q : p j
    · simp [q] at hj
    · simp [q] at hj; simp [hj]
end
theorem ieq_iff {x y : Int} : P.ieq x y = true ↔ x = y := by simp [P.ieq]
theorem ieq_eq (x y : Int) : P.ieq x y = decide (x = y) := by rw [Bool.eq_iff_iff]; simp [P.ieq]
theorem ilt_iff {x y : Int} : P.ilt x y = true ↔ x < y := by simp [P.ilt]
theorem ile_iff {x y : Int} : P.ile x y = true ↔ x ≤ y := by simp [P.ile]
theorem inb_iff {i n : Int} : P.inb i n = true ↔ 0 ≤ i ∧ i < n := by simp [P.inb]
theorem wrap_i64 {x : Int} (h0 : -9223372036854775808 ≤ x) (h1 : x < 9223372036854775808) : P.wrap .i64 x = x := by
  show IntKind.i64.wrap x = x
  simp only [IntKind.wrap, IntKind.bits, IntKind.signed]
  simp
  omega
theorem wrap_nat {n : Nat} (h : n < 9223372036854775808) : P.wrap .i64 (n : Int) = n := wrap_i64 (by omega) (by omega)
theorem wrap_succ {n : Nat} (h : n + 1 < 9223372036854775808) : P.wrap .i64 (P.add (n : Int) 1) = ((n + 1 : Nat) : Int) := by
  rw [wrap_i64 (by simp [P.add]; omega) (by simp [P.add]; omega)]; simp [P.add]
theorem wrap_pred {n : Nat} (h0 : 0 < n) (h : n < 9223372036854775808) : P.wrap .i64 (P.sub (n : Int) 1) = ((n - 1 : Nat) : Int) := by
  rw [wrap_i64 (by simp [P.sub]; omega) (by simp [P.sub]; omega)]; simp [P.sub]; omega
theorem not_iff {b : Bool} : P.not b = true ↔ ¬ b = true := by cases b <;> simp [P.not]
theorem and_iff {a b : Bool} : P.and a b = true ↔ a = true ∧ b = true := by simp [P.and]
theorem beq_iff {a b : Bool} : P.beq a b = true ↔ a = b := by simp [P.beq]
theorem room_iff {n : Int} {b : Nat} : P.room n b = true ↔ n.toNat * b ≤ 140737488355328 := by simp [P.room]
theorem room_nat {a b n : Nat} : P.room (P.add (a : Int) (b : Int)) n = true ↔ (a + b) * n ≤ 140737488355328 := by
  rw [room_iff]
  have : (P.add (a : Int) (b : Int)).toNat = a + b := by simp [P.add]; omega
  rw [this]
theorem get_nat {α : Type} (l : List α) (i : Nat) (d : α) : P.get l (i : Int) d = l.getD i d := by simp [P.get]
theorem len_eq {α : Type} (l : List α) : P.len l = (l.length : Int) := rfl
def ltS (a b : ByteArray) : Prop := a.data.toList < b.data.toList
instance (a b : ByteArray) : Decidable (ltS a b) := inferInstanceAs (Decidable (a.data.toList < b.data.toList))
theorem ba_ext {a b : ByteArray} (h : a.data.toList = b.data.toList) : a = b := by
  cases a; cases b; simp at h; simp [h]
theorem bytesLess_eq : ∀ (x y : List UInt8), Op.bytesLess x y = decide (x < y)
  | [], [] => by simp [Op.bytesLess]
  | _ :: _, [] => by simp [Op.bytesLess]
  | [], _ :: _ => by simp [Op.bytesLess]
  | a :: x, b :: y => by
    rw [Op.bytesLess, bytesLess_eq x y]
    simp only [List.cons_lt_cons_iff]
    by_cases h1 : a < b <;> by_cases h2 : a = b <;> by_cases h3 : x < y <;> simp [h1, h2, h3]
theorem slt_iff {a b : ByteArray} : P.slt a b = true ↔ ltS a b := by
  unfold P.slt ltS
  rw [bytesLess_eq, ByteArray.toList_eq, ByteArray.toList_eq]
  simp
theorem seq_iff {a b : ByteArray} : P.seq a b = true ↔ a = b := by
  unfold P.seq
  simp only [beq_iff_eq]
  exact ⟨ba_ext, fun h => by rw [h]⟩
theorem sle_iff {a b : ByteArray} : P.sle a b = true ↔ (ltS a b ∨ a = b) := by
  have h1 : Op.bytesLess a.toList b.toList = P.slt a b := rfl
  have h2 : (a.toList == b.toList) = P.seq a b := by unfold P.seq; rw [ByteArray.toList_eq, ByteArray.toList_eq]
  unfold P.sle
  rw [h1, h2, Bool.or_eq_true, slt_iff, seq_iff]
theorem ltS_irrefl (a : ByteArray) : ¬ ltS a a := List.lt_irrefl _
theorem ltS_trans {a b c : ByteArray} (h1 : ltS a b) (h2 : ltS b c) : ltS a c := List.lt_trans h1 h2
theorem ltS_asymm {a b : ByteArray} (h1 : ltS a b) : ¬ ltS b a := List.lt_asymm h1
theorem ltS_tri (a b : ByteArray) : ltS a b ∨ a = b ∨ ltS b a := by
  by_cases h1 : ltS a b
  · exact .inl h1
  · by_cases h2 : ltS b a
    · exact .inr (.inr h2)
    · exact .inr (.inl (ba_ext (List.le_antisymm (List.not_lt.1 h2) (List.not_lt.1 h1))))
end Go.PL
end
section
open Go Go.PG Go.PL
set_option linter.unusedVariables false
namespace Go.PL
end Go.PL
end
section
open Go Go.PG Go.PL
set_option linter.unusedVariables false
namespace Go.PL
abbrev At := Int × Int
abbrev dA : At := (0, 0)
def ltA (a b : At) : Prop := a.1 < b.1 ∨ (a.1 = b.1 ∧ a.2 < b.2)
instance (a b : At) : Decidable (ltA a b) := by unfold ltA; exact inferInstance
def RightA (a : At) : Prop := (3 ≤ a.1 ∧ a.1 ≤ 5 ∧ 0 ≤ a.2) ∨ ((a.1 = 0 ∨ a.1 = 1 ∨ a.1 = 2 ∨ a.1 = 6) ∧ a.2 = 0)
instance (a : At) : Decidable (RightA a) := by unfold RightA; exact inferInstance
theorem ltA_irrefl (a : At) : ¬ ltA a a := by unfold ltA; omega
theorem ltA_trans {a b c : At} (h1 : ltA a b) (h2 : ltA b c) : ltA a c := by unfold ltA at *; omega
theorem ltA_tri (a b : At) : ltA a b ∨ a = b ∨ ltA b a := by
  obtain ⟨a1, a2⟩ := a; obtain ⟨b1, b2⟩ := b
  simp only [ltA, Prod.mk.injEq]; omega
abbrev Rises (l : List At) : Prop := l.Pairwise ltA
theorem rises_ext : ∀ {l m : List At}, Rises l → Rises m → (∀ z, z ∈ l ↔ z ∈ m) → l = m := by
  intro l
  induction l with
  | nil =>
    intro m _ _ h
    cases m with
    | nil => rfl
    | cons b m => exact absurd ((h b).2 (by simp)) (by simp)
  | cons a l ih =>
    intro m hl hm h
    cases m with
    | nil => exact absurd ((h a).1 (by simp)) (by simp)
    | cons b m =>
      obtain ⟨h1, h2⟩ := List.pairwise_cons.1 hl
      obtain ⟨h3, h4⟩ := List.pairwise_cons.1 hm
      have hab : a = b := by
        rcases List.mem_cons.1 ((h a).1 (by simp)) with q | q
        · exact q
        · rcases List.mem_cons.1 ((h b).2 (by simp)) with q' | q'
          · exact q'.symm
          · exact absurd (ltA_trans (h3 a q) (h1 b q')) (ltA_irrefl _)
      subst hab
      congr 1
      refine ih h2 h4 fun z => ⟨fun hz => ?_, fun hz => ?_⟩
      · rcases List.mem_cons.1 ((h z).1 (List.mem_cons_of_mem _ hz)) with q | q
        · subst q; exact absurd (h1 z hz) (ltA_irrefl _)
        · exact q
      · rcases List.mem_cons.1 ((h z).2 (List.mem_cons_of_mem _ hz)) with q | q
        · subst q; exact absurd (h3 z hz) (ltA_irrefl _)
        · exact q
def insA (x : At) : List At → List At
  | [] => [x]
  | y :: l => if ltA x y then x :: y :: l else y :: insA x l
theorem mem_insA {x z : At} : ∀ {l : List At}, z ∈ insA x l ↔ z = x ∨ z ∈ l := by
  intro l
  induction l with
  | nil => simp [insA]
  | cons y l ih =>
    simp only [insA]
    split
    · simp
    · simp only [List.mem_cons, ih]
      constructor
      · rintro (h | h | h) <;> simp [h]
      · rintro (h | h | h) <;> simp [h]
theorem rises_insA {x : At} : ∀ {l : List At}, Rises l → x ∉ l → Rises (insA x l) := by
  intro l
  induction l with
  | nil => intro _ _; simp [insA, Rises]
  | cons y l ih =>
    intro h hx
    obtain ⟨h1, h2⟩ := List.pairwise_cons.1 h
    simp only [insA]
    split
    · rename_i q
      refine List.pairwise_cons.2 ⟨fun z hz => ?_, h⟩
      rcases List.mem_cons.1 hz with rfl | hz
      · exact q
      · exact ltA_trans q (h1 z hz)
    · rename_i q
      refine List.pairwise_cons.2 ⟨fun z hz => ?_, ih h2 fun z => hx (List.mem_cons_of_mem _ z)⟩
      rcases mem_insA.1 hz with rfl | hz
      · rcases ltA_tri z y with z' | z' | z'
        · exact absurd z' q
        · subst z'; exact absurd (by simp) hx
        · exact z'
      · exact h1 z hz
def addA (l : List At) (x : At) : List At := if RightA x ∧ x ∉ l then insA x l else l
def norm (l : List At) : List At := l.foldl addA []
theorem mem_addA {l : List At} {x z : At} : z ∈ addA l x ↔ z ∈ l ∨ (z = x ∧ RightA x) := by
  unfold addA
  split
  · rename_i h
    rw [mem_insA]
    constructor
    · rintro (q | q)
      · exact .inr ⟨q, h.1⟩
      · exact .inl q
    · rintro (q | q)
      · exact .inr q
      · exact .inl q.1
  · rename_i h
    constructor
    · exact .inl
    · rintro (q | ⟨rfl, q⟩)
      · exact q
      · apply Classical.byContradiction
        intro z'
        exact h ⟨q, z'⟩
theorem rises_addA {l : List At} {x : At} (h : Rises l) : Rises (addA l x) := by
  unfold addA
  split
  · rename_i q; exact rises_insA h q.2
  · exact h
theorem fold_spec : ∀ (l acc : List At), Rises acc → Rises (l.foldl addA acc) ∧ ∀ z, z ∈ l.foldl addA acc ↔ z ∈ acc ∨ (z ∈ l ∧ RightA z) := by
  intro l
  induction l with
  | nil => intro acc h; exact ⟨h, fun z => by simp⟩
  | cons x l ih =>
    intro acc h
    obtain ⟨h1, h2⟩ := ih (addA acc x) (rises_addA h)
    refine ⟨h1, fun z => ?_⟩
    rw [List.foldl_cons, h2, mem_addA, List.mem_cons]
    constructor
    · rintro ((q | ⟨rfl, q⟩) | q)
      · exact .inl q
      · exact .inr ⟨.inl rfl, q⟩
      · exact .inr ⟨.inr q.1, q.2⟩
    · rintro (q | ⟨rfl | q, q'⟩)
      · exact .inl (.inl q)
      · exact .inl (.inr ⟨rfl, q'⟩)
      · exact .inr ⟨q, q'⟩
theorem norm_rises (l : List At) : Rises (norm l) := (fold_spec l [] List.Pairwise.nil).1
theorem mem_norm {l : List At} {z : At} : z ∈ norm l ↔ z ∈ l ∧ RightA z := by
  unfold norm
  rw [(fold_spec l [] List.Pairwise.nil).2]
  simp
def Canon (l : List At) : Prop := Rises l ∧ ∀ z, z ∈ l → RightA z
theorem norm_canon (l : List At) : Canon (norm l) := ⟨norm_rises l, fun z h => (mem_norm.1 h).2⟩
theorem norm_eq {l m : List At} (h : Canon m) (hm : ∀ z, RightA z → (z ∈ m ↔ z ∈ l)) : norm l = m :=
  rises_ext (norm_rises l) h.1 fun z => by
    rw [mem_norm]
    exact ⟨fun q => (hm z q.2).2 q.1, fun q => ⟨(hm z (h.2 z q)).1 q, h.2 z q⟩⟩
theorem canon_iff {l : List At} : l = norm l ↔ Canon l := ⟨fun h => by rw [h]; exact norm_canon l, fun h => (norm_eq h fun _ _ => Iff.rfl).symm⟩
def K : Nat := 18446744073709551616
end Go.PL
end
section
open Go Go.PG Go.PL
set_option linter.unusedVariables false
namespace Go.PL
theorem getD_set_ne {l : List At} {i j : Nat} (h : i ≠ j) (x : At) : (l.set i x).getD j dA = l.getD j dA := by
  simp [List.getD_eq_getElem?_getD, List.getElem?_set_ne h]
theorem take_getD {l : List At} {j : Nat} (h : j < l.length) : l.take (j + 1) = l.take j ++ [l.getD j dA] := by
  rw [List.take_add_one, List.getElem?_eq_getElem h]
  simp [List.getD_eq_getElem?_getD, h]
end Go.PL
end
section
open Go Go.PG Go.PL
set_option linter.unusedVariables false
namespace Go.PL
theorem eqA_iff {a b : At} : P.and (P.ieq a.1 b.1) (P.ieq a.2 b.2) = true ↔ a = b := by
  rw [and_iff, ieq_iff, ieq_iff]
  exact ⟨fun h => Prod.ext h.1 h.2, fun h => by rw [h]; exact ⟨rfl, rfl⟩⟩
end Go.PL
end
section
open Go Go.PG Go.PL
set_option linter.unusedVariables false
namespace Go.PL
theorem insA_length (x : At) : ∀ l : List At, (insA x l).length = l.length + 1
  | [] => rfl
  | y :: l => by simp only [insA]; split <;> simp [insA_length x l]
theorem addA_length (l : List At) (x : At) : (addA l x).length ≤ l.length + 1 := by
  unfold addA; split
  · rw [insA_length]; exact Nat.le_refl _
  · omega
theorem fold_length : ∀ (l acc : List At), (l.foldl addA acc).length ≤ acc.length + l.length
  | [], acc => by simp
  | x :: l, acc => by
    have h1 := fold_length l (addA acc x)
    have h2 := addA_length acc x
    simp only [List.foldl_cons, List.length_cons]
    omega
theorem norm_length (l : List At) : (norm l).length ≤ l.length := by
  have := fold_length l []
  simpa [norm] using this
theorem at_clone (k : Nat) (x : List At) (hx : x.length ≤ 8796093022100) : slCloneAtom k x = some x := by
  unfold slCloneAtom
  have hroom : P.room (P.add (P.len (P.nil (Int × Int))) (P.len x)) 16 = true := by
    rw [show P.len (P.nil (Int × Int)) = ((0 : Nat) : Int) from rfl, len_eq, room_nat]
    omega
  try dsimp only
  rw [hroom, cond_true, show P.app [] x = x from rfl]
  by_cases h0 : P.ilt ((0 : Int)) (P.len x) = true
  · rw [h0]; rfl
  · rw [Bool.eq_false_iff.2 h0, cond_false]
    have : x = [] := by
      rw [ilt_iff, len_eq] at h0
      exact List.length_eq_zero_iff.1 (by omega)
    subst this
    simp [P.amb]
theorem eq_iff_getD {a b : List At} (h : a.length = b.length) : (∀ i, i < a.length → a.getD i dA = b.getD i dA) ↔ a = b := by
  constructor
  · intro q
    refine List.ext_getElem h fun i h1 h2 => ?_
    have := q i h1
    simpa [List.getD_eq_getElem?_getD, h1, h2] using this
  · rintro rfl i _; rfl
theorem ref_same (a b : List At) (ha : a.length ≤ 8796093022100) : ref06_Same K (a, b) = some (decide (a = b)) := by
  unfold ref06_Same
  try dsimp only
  by_cases hl : a.length = b.length
  · rw [show P.ieq (P.len a) (P.len b) = true from ieq_iff.2 (by simp [len_eq, hl]), show P.not true = false from rfl, cond_false]
    rw [iter_all (n := a.length) (e := .inl ()) (r := .inr false) (fun i => a.getD i dA = b.getD i dA) K ?_ ?_ (by unfold K; omega)]
    · rw [bind_some]
      by_cases h : ∀ i, i < a.length → a.getD i dA = b.getD i dA
      · rw [if_pos h, either_inl, decide_eq_true ((eq_iff_getD hl).1 h)]
      · rw [if_neg h, either_inr, decide_eq_false fun q => h ((eq_iff_getD hl).2 q)]
    · intro i hi
      try dsimp only
      rw [show P.ilt (i : Int) (P.len a) = true from ilt_iff.2 (by rw [len_eq]; omega), cond_true, show P.inb (i : Int) (P.len a) = true from inb_iff.2 (by rw [len_eq]; omega), cond_true, show P.inb (i : Int) (P.len b) = true from inb_iff.2 (by rw [len_eq]; omega), cond_true, get_nat, get_nat, wrap_succ (by omega)]
      by_cases q : a.getD i dA = b.getD i dA
      · rw [show P.and (P.ieq (a.getD i dA).1 (b.getD i dA).1) (P.ieq (a.getD i dA).2 (b.getD i dA).2) = true from eqA_iff.2 q, if_pos q]; rfl
      · rw [show P.and (P.ieq (a.getD i dA).1 (b.getD i dA).1) (P.ieq (a.getD i dA).2 (b.getD i dA).2) = false from by rw [Bool.eq_false_iff]; exact fun z => q (eqA_iff.1 z), if_neg q]; rfl
    · try dsimp only
      rw [show P.ilt (a.length : Int) (P.len a) = false from by rw [Bool.eq_false_iff, Ne, ilt_iff, len_eq]; omega]; rfl
  · rw [show P.ieq (P.len a) (P.len b) = false from by rw [Bool.eq_false_iff, Ne, ieq_iff, len_eq, len_eq]; omega, show P.not false = true from rfl, cond_true, decide_eq_false fun q => hl (by rw [q])]
theorem mem_iff_getD {l : List At} {x : At} : x ∈ l ↔ ∃ i, i < l.length ∧ l.getD i dA = x := by
  rw [List.mem_iff_getElem]
  constructor
  · rintro ⟨i, h, rfl⟩; exact ⟨i, h, by simp [List.getD_eq_getElem?_getD, h]⟩
  · rintro ⟨i, h, rfl⟩; exact ⟨i, h, by simp [List.getD_eq_getElem?_getD, h]⟩
theorem ref_has (l : List At) (x : At) (hl : l.length ≤ 8796093022100) : ref06_Has K (l, x) = some (decide (x ∈ l)) := by
  unfold ref06_Has
  try dsimp only
  rw [iter_all (n := l.length) (e := .inl ()) (r := .inr true) (fun i => l.getD i dA ≠ x) K ?_ ?_ (by unfold K; omega)]
  · rw [bind_some]
    by_cases h : ∀ i, i < l.length → l.getD i dA ≠ x
    · rw [if_pos h, either_inl, decide_eq_false]
      intro q
      obtain ⟨i, h1, h2⟩ := mem_iff_getD.1 q
      exact h i h1 h2
    · rw [if_neg h, either_inr, decide_eq_true]
      refine mem_iff_getD.2 (Classical.byContradiction fun q => h fun i hi e => q ⟨i, hi, e⟩)
  · intro i hi
    try dsimp only
    rw [show P.ilt (i : Int) (P.len l) = true from ilt_iff.2 (by rw [len_eq]; omega), cond_true, show P.inb (i : Int) (P.len l) = true from inb_iff.2 (by rw [len_eq]; omega), cond_true, get_nat, wrap_succ (by omega)]
    by_cases q : l.getD i dA = x
    · rw [show P.and (P.ieq (l.getD i dA).1 x.1) (P.ieq (l.getD i dA).2 x.2) = true from eqA_iff.2 q, if_neg (fun z => z q)]; rfl
    · rw [show P.and (P.ieq (l.getD i dA).1 x.1) (P.ieq (l.getD i dA).2 x.2) = false from by rw [Bool.eq_false_iff]; exact fun z => q (eqA_iff.1 z), if_pos q]; rfl
  · try dsimp only
    rw [show P.ilt (l.length : Int) (P.len l) = false from by rw [Bool.eq_false_iff, Ne, ilt_iff, len_eq]; omega]; rfl
def Within (a b : List At) : Prop := ∀ z, z ∈ a → z ∈ b
instance (a b : List At) : Decidable (Within a b) := by unfold Within; exact inferInstance
end Go.PL
end
section
open Go Go.PG Go.PL
set_option linter.unusedVariables false
namespace Go.PL
theorem ref_right (k : Nat) (a : At) : ref06_Right k a = some (decide (RightA a)) := by
  obtain ⟨a, b⟩ := a
  unfold ref06_Right
  dsimp only
  simp only [cond_eq, ieq_iff, ile_iff]
  repeat' split
  all_goals
    rw [Option.some.injEq, Bool.eq_iff_iff, decide_eq_true_eq]
    simp only [RightA, ieq_iff, ile_iff, Bool.false_eq_true, false_iff]
    omega
theorem ref_less (k : Nat) (a b : At) : ref06_Less k (a, b) = some (decide (ltA a b)) := by
  obtain ⟨a1, a2⟩ := a; obtain ⟨b1, b2⟩ := b
  unfold ref06_Less
  dsimp only
  simp only [cond_eq, ieq_iff, ilt_iff]
  repeat' split
  all_goals
    rw [Option.some.injEq, Bool.eq_iff_iff, decide_eq_true_eq]
    simp only [ltA, ilt_iff, true_iff, Bool.false_eq_true, false_iff]
    omega
theorem room1 (l : List At) (x : At) (h : l.length ≤ 8796093022200) : P.room (P.add (P.len l) (P.len [x])) 16 = true := by
  rw [len_eq, len_eq, room_nat]; simp; omega
def stepA (x : At) (s : List At × Bool) (y : At) : List At × Bool := if s.2 = false ∧ ltA x y then (s.1 ++ [x] ++ [y], true) else (s.1 ++ [y], s.2)
def finA (x : At) (s : List At × Bool) : List At := if s.2 = true then s.1 else s.1 ++ [x]
def layA (x : At) (l : List At) (i : Nat) : List At × Bool := (l.take i).foldl (stepA x) ([], false)
theorem layA_succ {x : At} {l : List At} {i : Nat} (h : i < l.length) : layA x l (i + 1) = stepA x (layA x l i) (l.getD i dA) := by
  unfold layA
  rw [take_getD h, List.foldl_append]
  rfl
theorem lay_len (x : At) (l : List At) : ∀ i, i ≤ l.length → (layA x l i).1.length ≤ i + 1 ∧ ((layA x l i).2 = false → (layA x l i).1.length ≤ i)
  | 0, _ => by simp [layA]
  | i + 1, h => by
    obtain ⟨h1, h2⟩ := lay_len x l i (by omega)
    rw [layA_succ (by omega)]
    unfold stepA
    split
    · rename_i q
      have := h2 q.1
      simp; omega
    · simp
      exact ⟨h1, fun q => h2 q⟩
theorem step_true (x : At) : ∀ (l acc : List At), l.foldl (stepA x) (acc, true) = (acc ++ l, true)
  | [], acc => by simp
  | y :: l, acc => by
    rw [List.foldl_cons, show stepA x (acc, true) y = (acc ++ [y], true) from by simp [stepA], step_true x l]
    simp
theorem step_false (x : At) : ∀ (l acc : List At), finA x (l.foldl (stepA x) (acc, false)) = acc ++ insA x l
  | [], acc => by simp [insA, finA]
  | y :: l, acc => by
    rw [List.foldl_cons]
    unfold insA
    by_cases q : ltA x y
    · rw [show stepA x (acc, false) y = (acc ++ [x] ++ [y], true) from by simp [stepA, q], step_true, if_pos q]; simp [finA]
    · rw [show stepA x (acc, false) y = (acc ++ [y], false) from by simp [stepA, q], step_false x l, if_neg q]; simp
theorem lay_all (x : At) (l : List At) : finA x (layA x l l.length) = insA x l := by
  have := step_false x l []
  unfold layA
  rw [List.take_length]
  simpa using this
theorem ref_add (l : List At) (x : At) (hl : l.length ≤ 8796093022100) : ref06_add K (l, x) = some (addA l x) := by
  unfold ref06_add
  dsimp only
  rw [ref_right, bind_some]
  by_cases h1 : RightA x
  · rw [decide_eq_true h1, show P.not true = false from rfl, cond_false, ref_has l x hl, bind_some]
    by_cases h2 : x ∈ l
    · rw [decide_eq_true h2, cond_true]
      unfold addA
      rw [if_neg (fun q => q.2 h2)]
    · rw [decide_eq_false h2, cond_false]
      unfold addA
      rw [if_pos ⟨h1, h2⟩, ← lay_all]
      have run : ∀ f : List At × Bool × Int → Option ((List At × Bool × Int) ⊕ ((List At × Bool) ⊕ List At)),
          (∀ i, i < l.length → f ((layA x l i).1, (layA x l i).2, (i : Int)) = some (.inl ((layA x l (i + 1)).1, (layA x l (i + 1)).2, ((i + 1 : Nat) : Int)))) →
          f ((layA x l l.length).1, (layA x l l.length).2, (l.length : Int)) = some (.inr (.inl (layA x l l.length))) → P.iter K f ([], false, (0 : Int)) = some (.inl (layA x l l.length)) := by
        intro f hs he
        exact iter_run (fun i => ((layA x l i).1, (layA x l i).2, (i : Int))) _ l.length 0 K (by unfold K; omega) (fun j hj => by simpa using hs j hj) (by simpa using he)
      rw [run _ (fun i hi => ?_) ?_]
      · rw [bind_some, either_inl]
        cases hb : (layA x l l.length).2
        · rw [show P.not false = true from rfl, cond_true, room1 _ _ (by have := (lay_len x l l.length (Nat.le_refl _)).1; omega), cond_true]
          unfold finA
          rw [if_neg (by simp [hb])]; rfl
        · rw [show P.not true = false from rfl, cond_false]
          unfold finA
          rw [if_pos hb]
      · try dsimp only
        rw [show P.ilt (l.length : Int) (P.len l) = false from by rw [Bool.eq_false_iff, Ne, ilt_iff, len_eq]; omega]; rfl
      · try dsimp only
        have hr := (lay_len x l i (by omega)).1
        have r1 : P.room (P.add (P.len (layA x l i).1) (P.len [x])) 16 = true := room1 _ _ (by omega)
        have r2 : P.room (P.add (P.len (layA x l i).1) (P.len [l.getD i dA])) 16 = true := room1 _ _ (by omega)
        have r3 : P.room (P.add (P.len (P.app (layA x l i).1 [x])) (P.len [l.getD i dA])) 16 = true := room1 _ _ (by simp [P.app]; omega)
        simp only [show P.ilt (i : Int) (P.len l) = true from ilt_iff.2 (by rw [len_eq]; omega), show P.inb (i : Int) (P.len l) = true from inb_iff.2 (by rw [len_eq]; omega), cond_true, get_nat, wrap_succ (show i + 1 < 9223372036854775808 by omega), r1, r2, r3]
        rw [ref_less, bind_some, layA_succ hi]
        unfold stepA
        cases hb : (layA x l i).2
        · rw [show P.not false = true from rfl, cond_true]
          by_cases q : ltA x (l.getD i dA)
          · rw [decide_eq_true q, cond_true, if_pos ⟨rfl, q⟩]; rfl
          · rw [decide_eq_false q, cond_false, if_neg (fun z => q z.2)]; rfl
        · rw [show P.not true = false from rfl, cond_false, if_neg (fun z => by cases z.1)]; rfl
  · rw [decide_eq_false h1, show P.not false = true from rfl, cond_true]
    unfold addA
    rw [if_neg (fun q => h1 q.1)]
theorem fold_add (l acc : List At) (h : acc.length + l.length ≤ 8796093022000) :
    P.bind (P.iter K (fun (y : List (Int × Int) × Int) => P.cond (P.ilt y.snd (P.len l)) (P.cond (P.inb y.snd (P.len l)) (P.bind (ref06_add K (y.fst, P.get l y.snd ((0 : Int), (0 : Int)))) fun (r : List (Int × Int)) => some (Sum.inl (r, P.wrap IntKind.i64 (P.add y.snd ((1 : Int)))))) none) (some (Sum.inr (Sum.inl y.fst)))) (acc, (0 : Int))) (P.either (fun (z : List (Int × Int)) => some z) fun (r : List (Int × Int)) => some r) = some (l.foldl addA acc) := by
  have run : ∀ f : List At × Int → Option ((List At × Int) ⊕ (List At ⊕ List At)),
      (∀ i, i < l.length → f ((l.take i).foldl addA acc, (i : Int)) = some (.inl ((l.take (i + 1)).foldl addA acc, ((i + 1 : Nat) : Int)))) →
      f (l.foldl addA acc, (l.length : Int)) = some (.inr (.inl (l.foldl addA acc))) → P.iter K f (acc, (0 : Int)) = some (.inl (l.foldl addA acc)) := by
    intro f hs he
    exact iter_run (fun i => ((l.take i).foldl addA acc, (i : Int))) _ l.length 0 K (by unfold K; omega) (fun j hj => by simpa using hs j hj) (by simpa using he)
  rw [run _ (fun i hi => ?_) ?_]
  · rfl
  · try dsimp only
    rw [show P.ilt (l.length : Int) (P.len l) = false from by rw [Bool.eq_false_iff, Ne, ilt_iff, len_eq]; omega]; rfl
  · try dsimp only
    have hr := fold_length (l.take i) acc
    rw [List.length_take] at hr
    rw [show P.ilt (i : Int) (P.len l) = true from ilt_iff.2 (by rw [len_eq]; omega), cond_true, show P.inb (i : Int) (P.len l) = true from inb_iff.2 (by rw [len_eq]; omega), cond_true, get_nat, wrap_succ (by omega), ref_add _ _ (by omega), bind_some, take_getD hi, List.foldl_append]
    rfl
theorem ref_norm (l : List At) (h : l.length ≤ 8796093022000) : ref06_Norm K l = some (norm l) := fold_add l [] (by simpa using h)
theorem ref_may (l : List At) (h : l.length ≤ 8796093022000) : ref06_May K l = some (decide (l = norm l)) := by
  unfold ref06_May
  rw [ref_norm l h, bind_some, ref_same l _ (by omega), bind_some]
theorem norm_append (a b : List At) : norm (a ++ b) = b.foldl addA (norm a) := by unfold norm; rw [List.foldl_append]
theorem ref_union (a b : List At) (h : a.length + b.length ≤ 8796093022000) : ref06_Union K (a, b) = some (norm (a ++ b)) := by
  unfold ref06_Union
  dsimp only
  rw [ref_norm a (by omega), bind_some, norm_append]
  exact fold_add b (norm a) (by have := norm_length a; omega)
end Go.PL
end
section
open Go Go.PG Go.PL
set_option linter.unusedVariables false
namespace Go.PL
def renA (s : Int) (x : At) : At := if x = (4, s) then (5, s) else x
theorem renA_eq {s : Int} {x : At} : renA s x = if x = (4, s) then (5, x.2) else x := by
  unfold renA; split
  · rename_i h; subst h; rfl
  · rfl
theorem ref_rename (l : List At) (s : Int) (h : l.length ≤ 8796093022000) : ref06_Rename K (l, s) = some (norm (l.map (renA s))) := by
  unfold ref06_Rename
  dsimp only
  have run : ∀ f : List At × Int → Option ((List At × Int) ⊕ (List At ⊕ List At)),
      (∀ i, i < l.length → f ((l.take i).map (renA s), (i : Int)) = some (.inl ((l.take i).map (renA s) ++ [renA s (l.getD i dA)], ((i + 1 : Nat) : Int)))) →
      f (l.map (renA s), (l.length : Int)) = some (.inr (.inl (l.map (renA s)))) → P.iter K f ([], (0 : Int)) = some (.inl (l.map (renA s))) := by
    intro f hs he
    refine iter_run (fun i => ((l.take i).map (renA s), (i : Int))) _ l.length 0 K (by unfold K; omega) (fun j hj => ?_) (by simpa using he)
    have := hs j hj
    simp only [Nat.zero_add]
    rw [this, take_getD hj, List.map_append]
    rfl
  rw [run _ ?_ ?_]
  · rw [bind_some, either_inl, ref_norm _ (by simpa using h), bind_some]
  · intro i hi
    try dsimp only
    have hr : ∀ x : At, P.room (P.add (P.len ((l.take i).map (renA s))) (P.len [x])) 16 = true := fun x => room1 _ _ (by simp; omega)
    rw [show P.ilt (i : Int) (P.len l) = true from ilt_iff.2 (by rw [len_eq]; omega), cond_true, show P.inb (i : Int) (P.len l) = true from inb_iff.2 (by rw [len_eq]; omega), cond_true, get_nat, wrap_succ (by omega), hr, hr]
    simp only [cond_true, cond_eq, ieq_iff]
    rw [renA_eq]
    by_cases q : l.getD i dA = (4, s)
    · rw [if_pos q, if_pos (by rw [q]), if_pos (by rw [q])]; rfl
    · rw [if_neg q]
      by_cases q1 : (l.getD i dA).1 = 4
      · rw [if_pos q1, if_neg (fun z => q (Prod.ext q1 z))]; rfl
      · rw [if_neg q1]; rfl
  · try dsimp only
    rw [show P.ilt (l.length : Int) (P.len l) = false from by rw [Bool.eq_false_iff, Ne, ilt_iff, len_eq]; omega]; rfl
end Go.PL
end
section
open Go Go.PG Go.PL
set_option linter.unusedVariables false
namespace Go.PL
end Go.PL
end
section
open Go Go.PG Go.PL
set_option linter.unusedVariables false
namespace Go.PL
abbrev Fd := ByteArray × Bool × List At
abbrev Sp := List Fd × List At
abbrev dF : Fd := (⟨#[]⟩, false, [])
abbrev RisesF (l : List Fd) : Prop := l.Pairwise fun a b => ltS a.1 b.1
def get (l : List Fd) (n : ByteArray) : Option Fd := l.find? fun f => decide (f.1 = n)
theorem get_name {l : List Fd} {n : ByteArray} {f : Fd} (h : get l n = some f) : f.1 = n := by
  have := List.find?_some h
  exact of_decide_eq_true this
theorem get_mem {l : List Fd} {n : ByteArray} {f : Fd} (h : get l n = some f) : f ∈ l := List.mem_of_find?_eq_some h
theorem get_none {l : List Fd} {n : ByteArray} : get l n = none ↔ ∀ f, f ∈ l → f.1 ≠ n := by
  unfold get
  rw [List.find?_eq_none]
  constructor
  · intro h f hf e
    exact h f hf (decide_eq_true e)
  · intro h f hf e
    exact h f hf (of_decide_eq_true e)
theorem risesF_inj {l : List Fd} (h : RisesF l) {f g : Fd} (hf : f ∈ l) (hg : g ∈ l) (e : f.1 = g.1) : f = g := by
  induction l with
  | nil => cases hf
  | cons a l ih =>
    obtain ⟨h1, h2⟩ := List.pairwise_cons.1 h
    rcases List.mem_cons.1 hf with rfl | hf'
    · rcases List.mem_cons.1 hg with rfl | hg'
      · rfl
      · exact absurd (h1 g hg') (by rw [e]; exact ltS_irrefl _)
    · rcases List.mem_cons.1 hg with rfl | hg'
      · exact absurd (h1 f hf') (by rw [e]; exact ltS_irrefl _)
      · exact ih h2 hf' hg'
theorem get_of_mem {l : List Fd} (h : RisesF l) {f : Fd} (hf : f ∈ l) : get l f.1 = some f := by
  cases q : get l f.1 with
  | none => exact absurd rfl (get_none.1 q f hf)
  | some g => rw [risesF_inj h (get_mem q) hf (get_name q)]
theorem risesF_ext : ∀ {l m : List Fd}, RisesF l → RisesF m → (∀ n, get l n = get m n) → l = m := by
  intro l
  induction l with
  | nil =>
    intro m _ _ h
    cases m with
    | nil => rfl
    | cons b m =>
      have := h b.1
      simp [get] at this
  | cons a l ih =>
    intro m hl hm h
    cases m with
    | nil =>
      have := h a.1
      simp [get] at this
    | cons b m =>
      obtain ⟨h1, h2⟩ := List.pairwise_cons.1 hl
      obtain ⟨h3, h4⟩ := List.pairwise_cons.1 hm
      have ea := h a.1
      rw [get_of_mem hl (by simp)] at ea
      have eb := h b.1
      rw [get_of_mem hm (by simp)] at eb
      have hab : a = b := by
        rcases List.mem_cons.1 (get_mem ea.symm) with q | q
        · exact q
        · rcases List.mem_cons.1 (get_mem eb) with q' | q'
          · exact q'.symm
          · exact absurd (ltS_trans (h3 a q) (h1 b q')) (ltS_irrefl _)
      subst hab
      congr 1
      refine ih h2 h4 fun n => ?_
      by_cases q : a.1 = n
      · subst q
        have n1 : get l a.1 = none := get_none.2 fun f hf e => absurd (h1 f hf) (by rw [e]; exact ltS_irrefl _)
        have n2 : get m a.1 = none := get_none.2 fun f hf e => absurd (h3 f hf) (by rw [e]; exact ltS_irrefl _)
        rw [n1, n2]
      · have := h n
        simpa [get, q] using this
def put (l : List Fd) (f : Fd) : List Fd := match l with
  | [] => [f]
  | g :: r => if ltS f.1 g.1 then f :: g :: r else if f.1 = g.1 then f :: r else g :: put r f
theorem put_names {f g : Fd} : ∀ {l : List Fd}, g ∈ put l f → g = f ∨ (g ∈ l ∧ True) := by
  intro l
  induction l with
  | nil => intro h; simp only [put, List.mem_singleton] at h; exact .inl h
  | cons a l ih =>
    intro h
    simp only [put] at h
    split at h
    · rcases List.mem_cons.1 h with h | h
      · exact .inl h
      · exact .inr ⟨h, trivial⟩
    · split at h
      · rcases List.mem_cons.1 h with h | h
        · exact .inl h
        · exact .inr ⟨List.mem_cons_of_mem _ h, trivial⟩
      · rcases List.mem_cons.1 h with h | h
        · exact .inr ⟨by rw [h]; simp, trivial⟩
        · rcases ih h with q | q
          · exact .inl q
          · exact .inr ⟨List.mem_cons_of_mem _ q.1, trivial⟩
theorem put_rises {f : Fd} : ∀ {l : List Fd}, RisesF l → RisesF (put l f) := by
  intro l
  induction l with
  | nil => intro _; exact List.pairwise_singleton _ _
  | cons a l ih =>
    intro h
    obtain ⟨h1, h2⟩ := List.pairwise_cons.1 h
    simp only [put]
    split
    · rename_i q
      refine List.pairwise_cons.2 ⟨fun g hg => ?_, h⟩
      rcases List.mem_cons.1 hg with rfl | hg
      · exact q
      · exact ltS_trans q (h1 g hg)
    · rename_i q
      split
      · rename_i e
        exact List.pairwise_cons.2 ⟨fun g hg => by rw [e]; exact h1 g hg, h2⟩
      · rename_i e
        refine List.pairwise_cons.2 ⟨fun g hg => ?_, ih h2⟩
        rcases put_names hg with rfl | hg
        · rcases ltS_tri g.1 a.1 with z | z | z
          · exact absurd z q
          · exact absurd z e
          · exact z
        · exact h1 g hg.1
theorem get_put {f : Fd} {n : ByteArray} : ∀ {l : List Fd}, RisesF l → get (put l f) n = if f.1 = n then some f else get l n := by
  intro l
  induction l with
  | nil => intro _; simp only [put, get, List.find?_cons, List.find?_nil]; by_cases q : f.1 = n <;> simp [q]
  | cons a l ih =>
    intro h
    obtain ⟨h1, h2⟩ := List.pairwise_cons.1 h
    simp only [put]
    split
    · simp only [get, List.find?_cons]
      by_cases q : f.1 = n <;> simp [q]
    · split
      · rename_i e
        simp only [get, List.find?_cons]
        by_cases q : f.1 = n
        · simp [q]
        · have : ¬ a.1 = n := by rw [← e]; exact q
          simp [q, this]
      · rename_i e1 e
        have := ih h2
        simp only [get, List.find?_cons] at this ⊢
        by_cases q : a.1 = n
        · have : ¬ f.1 = n := by rw [← q]; exact e
          simp [q, this]
        · simp only [q, decide_false]
          exact this
end Go.PL
end
section
open Go Go.PG Go.PL
set_option linter.unusedVariables false
namespace Go.PL
end Go.PL
end
section
open Go Go.PG Go.PL
set_option linter.unusedVariables false
namespace Go.PL
def FewS (s : Sp) : Prop := s.1.length ≤ 100000 ∧ (∀ f, f ∈ s.1 → f.2.2.length ≤ 100000) ∧ s.2.length ≤ 100000
theorem range_map {α : Type} (l : List α) (d : α) : (List.range l.length).map (fun i => l.getD i d) = l := by
  apply List.ext_getElem
  · simp
  · intro i h1 h2
    simp at h1
    simp [List.getD_eq_getElem?_getD, h1]
theorem find_range {ρ : Type} (l : List Fd) (n : ByteArray) (g : Fd → ρ) : (List.range l.length).findSome? (fun i => if (l.getD i dF).1 = n then some (g (l.getD i dF)) else none) = (get l n).map g := by
  have h : ∀ m : List Fd, m.findSome? (fun f => if f.1 = n then some (g f) else none) = (get m n).map g := by
    intro m
    induction m with
    | nil => rfl
    | cons f m ih =>
      simp only [List.findSome?_cons, get, List.find?_cons]
      by_cases q : f.1 = n
      · simp [q]
      · simp only [q, if_false, decide_false]
        exact ih
  conv => rhs; rw [← h l, ← range_map l dF]
  rw [List.findSome?_map]
  rfl
theorem mem_getD {l : List Fd} {i : Nat} (h : i < l.length) : l.getD i dF ∈ l := by
  rw [List.getD_eq_getElem?_getD, List.getElem?_eq_getElem h]
  exact List.getElem_mem _
def getR (l : List Fd) (n : ByteArray) : Fd × Bool := match get l n with
  | some f => (f, true)
  | none => (dF, false)
theorem getR_eq (l : List Fd) (n : ByteArray) : ((get l n).map fun f => (Sum.inr (f, true) : Unit ⊕ (Fd × Bool))).getD (.inl ()) = match get l n with
    | some f => .inr (f, true)
    | none => .inl () := by cases get l n <;> rfl
theorem ob_get (s : Sp) (n : ByteArray) (h : FewS s) : object_Get K (s, n) = some (getR s.1 n) := by
  unfold object_Get
  try dsimp only
  obtain ⟨h1, h2, h3⟩ := h
  have run : ∀ f : Int → Option (Int ⊕ (Unit ⊕ (Fd × Bool))), (∀ i : Nat, i < s.1.length → f (i : Int) = some (if (s.1.getD i dF).1 = n then .inr (.inr (s.1.getD i dF, true)) else .inl ((i + 1 : Nat) : Int))) → f (s.1.length : Int) = some (.inr (.inl ())) → P.iter K f 0 = some (match get s.1 n with
      | some f => .inr (f, true)
      | none => .inl ()) := by
    intro f hs he
    rw [iter_find0 (n := s.1.length) (e := .inl ()) (fun i => (if (s.1.getD i dF).1 = n then some (Sum.inr (s.1.getD i dF, true)) else none : Option (Unit ⊕ (Fd × Bool)))) K (fun i hi => by rw [hs i hi]; by_cases q : (s.1.getD i dF).1 = n <;> simp only [q, if_true, if_false]) he (by unfold K; omega), find_range s.1 n (fun f => (Sum.inr (f, true) : Unit ⊕ (Fd × Bool))), getR_eq]
  rw [run _ ?_ ?_]
  · rw [bind_some]
    unfold getR
    cases get s.1 n with
    | some f => rfl
    | none => rfl
  · intro i hi
    try dsimp only
    rw [show P.ilt (i : Int) (P.len s.1) = true from ilt_iff.2 (by rw [len_eq]; omega), cond_true, show P.inb (i : Int) (P.len s.1) = true from inb_iff.2 (by rw [len_eq]; omega), cond_true, cond_true, get_nat, wrap_succ (by omega), show P.ilt (i : Int) ((0 : Int)) = false from by rw [Bool.eq_false_iff, Ne, ilt_iff]; omega, cond_false, at_clone K (s.1.getD i dF).2.2 (by have := h2 _ (mem_getD hi); omega), bind_some]
    by_cases q : (s.1.getD i dF).1 = n
    · rw [if_pos q, show P.seq (s.1.getD i dF).1 n = true from seq_iff.2 q]; rfl
    · rw [if_neg q, show P.seq (s.1.getD i dF).1 n = false from by rw [Bool.eq_false_iff]; exact fun z => q (seq_iff.1 z)]; rfl
  · try dsimp only
    rw [show P.ilt (s.1.length : Int) (P.len s.1) = false from by rw [Bool.eq_false_iff, Ne, ilt_iff, len_eq]; omega]; rfl
theorem ref_get (s : Sp) (n : ByteArray) (h : s.1.length ≤ 1000000) : ref07_Get K (s, n) = some (getR s.1 n) := by
  unfold ref07_Get
  try dsimp only
  have run : ∀ f : Int → Option (Int ⊕ (Unit ⊕ (Fd × Bool))), (∀ i : Nat, i < s.1.length → f (i : Int) = some (if (s.1.getD i dF).1 = n then .inr (.inr (s.1.getD i dF, true)) else .inl ((i + 1 : Nat) : Int))) → f (s.1.length : Int) = some (.inr (.inl ())) → P.iter K f 0 = some (match get s.1 n with
      | some f => .inr (f, true)
      | none => .inl ()) := by
    intro f hs he
    rw [iter_find0 (n := s.1.length) (e := .inl ()) (fun i => (if (s.1.getD i dF).1 = n then some (Sum.inr (s.1.getD i dF, true)) else none : Option (Unit ⊕ (Fd × Bool)))) K (fun i hi => by rw [hs i hi]; by_cases q : (s.1.getD i dF).1 = n <;> simp only [q, if_true, if_false]) he (by unfold K; omega), find_range s.1 n (fun f => (Sum.inr (f, true) : Unit ⊕ (Fd × Bool))), getR_eq]
  rw [run _ ?_ ?_]
  · rw [bind_some]
    unfold getR
    cases get s.1 n with
    | some f => rfl
    | none => rfl
  · intro i hi
    try dsimp only
    simp only [show P.ilt (i : Int) (P.len s.1) = true from ilt_iff.2 (by rw [len_eq]; omega), cond_true, show P.inb (i : Int) (P.len s.1) = true from inb_iff.2 (by rw [len_eq]; omega), get_nat, wrap_succ (show i + 1 < 9223372036854775808 by omega)]
    by_cases q : (s.1.getD i dF).1 = n
    · rw [if_pos q, show P.seq (s.1.getD i dF).1 n = true from seq_iff.2 q]; rfl
    · rw [if_neg q, show P.seq (s.1.getD i dF).1 n = false from by rw [Bool.eq_false_iff]; exact fun z => q (seq_iff.1 z)]; rfl
  · try dsimp only
    rw [show P.ilt (s.1.length : Int) (P.len s.1) = false from by rw [Bool.eq_false_iff, Ne, ilt_iff, len_eq]; omega]; rfl
end Go.PL
end
section
open Go Go.PG Go.PL
set_option linter.unusedVariables false
namespace Go.PL
def MayO (s : Sp) : Prop := RisesF s.1 ∧ (∀ f, f ∈ s.1 → f.2.2 = norm f.2.2) ∧ s.2 = norm s.2
instance (s : Sp) : Decidable (MayO s) := by unfold MayO; exact inferInstance
def StepO (l : List Fd) (i : Nat) : Prop := (l.getD i dF).2.2 = norm (l.getD i dF).2.2 ∧ (0 < i → ltS (l.getD (i - 1) dF).1 (l.getD i dF).1)
instance (l : List Fd) (i : Nat) : Decidable (StepO l i) := by unfold StepO; exact inferInstance
theorem rises_of_steps {l : List Fd} (h : ∀ i, i < l.length → 0 < i → ltS (l.getD (i - 1) dF).1 (l.getD i dF).1) : RisesF l := by
  have key : ∀ d i, i + d + 1 < l.length → ltS (l.getD i dF).1 (l.getD (i + d + 1) dF).1 := by
    intro d
    induction d with
    | zero => intro i hi; have := h (i + 1) (by omega) (by omega); simpa using this
    | succ d ih =>
      intro i hi
      have h1 := ih i (by omega)
      have h2 := h (i + (d + 1) + 1) (by omega) (by omega)
      rw [show i + (d + 1) + 1 - 1 = i + d + 1 by omega] at h2
      exact ltS_trans h1 h2
  refine List.pairwise_iff_getElem.2 fun i j hi hj hij => ?_
  have := key (j - i - 1) i (by omega)
  rw [show i + (j - i - 1) + 1 = j by omega] at this
  simpa [List.getD_eq_getElem?_getD, hi, hj] using this
theorem steps_of_rises {l : List Fd} (h : RisesF l) (i : Nat) (hi : i < l.length) (h0 : 0 < i) : ltS (l.getD (i - 1) dF).1 (l.getD i dF).1 := by
  have := List.pairwise_iff_getElem.1 h (i - 1) i (by omega) hi (by omega)
  simpa [List.getD_eq_getElem?_getD, hi, show i - 1 < l.length by omega] using this
theorem steps_iff {l : List Fd} : (∀ i, i < l.length → StepO l i) ↔ RisesF l ∧ ∀ f, f ∈ l → f.2.2 = norm f.2.2 := by
  constructor
  · intro h
    refine ⟨rises_of_steps fun i hi h0 => (h i hi).2 h0, fun f hf => ?_⟩
    obtain ⟨i, hi, rfl⟩ := List.getElem_of_mem hf
    have := (h i hi).1
    simpa [List.getD_eq_getElem?_getD, hi] using this
  · intro h i hi
    exact ⟨h.2 _ (mem_getD hi), fun h0 => steps_of_rises h.1 i hi h0⟩
theorem ref_may7 (s : Sp) (h : FewS s) : ref07_May K s = some (decide (MayO s)) := by
  unfold ref07_May
  try dsimp only
  obtain ⟨h1, h2, h3⟩ := h
  rw [iter_all (n := s.1.length) (e := .inl ()) (r := .inr false) (fun i => StepO s.1 i) K ?_ ?_ (by unfold K; omega)]
  · rw [bind_some]
    by_cases q : ∀ i, i < s.1.length → StepO s.1 i
    · rw [if_pos q, either_inl, ref_may _ (by omega), bind_some]
      congr 1
      rw [Bool.eq_iff_iff, decide_eq_true_eq, decide_eq_true_eq]
      have := steps_iff.1 q
      exact ⟨fun z => ⟨this.1, this.2, z⟩, fun z => z.2.2⟩
    · rw [if_neg q, either_inr, decide_eq_false fun z => q (steps_iff.2 ⟨z.1, z.2.1⟩)]
  · intro i hi
    try dsimp only
    rw [show P.ilt (i : Int) (P.len s.1) = true from ilt_iff.2 (by rw [len_eq]; omega), cond_true, show P.inb (i : Int) (P.len s.1) = true from inb_iff.2 (by rw [len_eq]; omega), cond_true, get_nat, ref_may (s.1.getD i dF).2.2 (by have := h2 _ (mem_getD hi); omega), bind_some, wrap_succ (by omega)]
    by_cases q : (s.1.getD i dF).2.2 = norm (s.1.getD i dF).2.2
    · rw [decide_eq_true q, show P.not true = false from rfl, cond_false]
      by_cases h0 : 0 < i
      · rw [show P.ilt ((0 : Int)) (i : Int) = true from ilt_iff.2 (by omega), cond_true, wrap_pred h0 (by omega), show P.inb ((i - 1 : Nat) : Int) (P.len s.1) = true from inb_iff.2 (by rw [len_eq]; omega), cond_true, cond_true, get_nat]
        by_cases z : ltS (s.1.getD (i - 1) dF).1 (s.1.getD i dF).1
        · rw [show P.slt (s.1.getD (i - 1) dF).1 (s.1.getD i dF).1 = true from slt_iff.2 z, if_pos (show StepO s.1 i from ⟨q, fun _ => z⟩)]; rfl
        · rw [show P.slt (s.1.getD (i - 1) dF).1 (s.1.getD i dF).1 = false from by rw [Bool.eq_false_iff]; exact fun y => z (slt_iff.1 y), if_neg (show ¬ StepO s.1 i from fun y => z (y.2 h0))]; rfl
      · rw [show P.ilt ((0 : Int)) (i : Int) = false from by rw [Bool.eq_false_iff, Ne, ilt_iff]; omega, cond_false, if_pos (show StepO s.1 i from ⟨q, fun z => absurd z h0⟩)]
    · rw [decide_eq_false q, show P.not false = true from rfl, cond_true, if_neg (show ¬ StepO s.1 i from fun z => q z.1)]
  · try dsimp only
    rw [show P.ilt (s.1.length : Int) (P.len s.1) = false from by rw [Bool.eq_false_iff, Ne, ilt_iff, len_eq]; omega]; rfl
end Go.PL
end
section
open Go Go.PG Go.PL
set_option linter.unusedVariables false
namespace Go.PL
theorem take_getF {l : List Fd} {j : Nat} (h : j < l.length) : l.take (j + 1) = l.take j ++ [l.getD j dF] := by
  rw [List.take_add_one, List.getElem?_eq_getElem h]
  simp [List.getD_eq_getElem?_getD, h]
theorem copy_run {ρ : Type} (l : List Fd) (p : List At) (hl : l.length ≤ 1000000) (f : Int × List Fd × List At → Option ((Int × List Fd × List At) ⊕ ((List Fd × List At) ⊕ ρ)))
    (hs : ∀ i : Nat, i < l.length → f ((i : Int), l.take i, p) = some (.inl (((i + 1 : Nat) : Int), l.take i ++ [l.getD i dF], p))) (he : f ((l.length : Int), l, p) = some (.inr (.inl (l, p)))) : P.iter K f (0, [], p) = some (.inl (l, p)) := by
  refine iter_run (fun i => ((i : Int), l.take i, p)) _ l.length 0 K (by unfold K; omega) (fun j hj => ?_) (by simpa using he)
  have := hs j hj
  simp only [Nat.zero_add]
  rw [this, take_getF hj]
theorem room48 (l : List Fd) (x : Fd) (h : l.length ≤ 4000000) : P.room (P.add (P.len l) (P.len [x])) 48 = true := by
  rw [len_eq, len_eq, room_nat]; simp; omega
end Go.PL
namespace Go.PL
def strong (s : Sp) (n : ByteArray) (v : List At) : Sp := if MayO s then (put s.1 (n, true, norm v), s.2) else ([], [])
def weak (s : Sp) (n : ByteArray) (v : List At) : Sp := if MayO s then (put s.1 (n, (getR s.1 n).1.2.1, norm ((getR s.1 n).1.2.2 ++ v)), s.2) else ([], [])
theorem getR_few {s : Sp} (h : FewS s) (n : ByteArray) : (getR s.1 n).1.2.2.length ≤ 100000 := by
  unfold getR
  cases q : get s.1 n with
  | none => simp
  | some f => exact h.2.1 f (get_mem q)
theorem copy_step (l : List Fd) (hl : l.length ≤ 1000000) (hv : ∀ f, f ∈ l → f.2.2.length ≤ 100000) (p : List At) {ρ : Type} (i : Nat) (hi : i < l.length) :
    (P.cond (P.ilt (i : Int) (P.len l)) (P.cond (P.inb (i : Int) (P.len l)) (P.bind (slCloneAtom K (P.get l (i : Int) ((ByteArray.mk #[]), false, [])).snd.snd) fun (r : List (Int × Int)) => P.cond (P.room (P.add (P.len (l.take i)) (P.len [((P.get l (i : Int) ((ByteArray.mk #[]), false, [])).fst, (P.get l (i : Int) ((ByteArray.mk #[]), false, [])).snd.fst, r)])) 48) (some (Sum.inl (P.wrap IntKind.i64 (P.add (i : Int) ((1 : Int))), P.app (l.take i) [((P.get l (i : Int) ((ByteArray.mk #[]), false, [])).fst, (P.get l (i : Int) ((ByteArray.mk #[]), false, [])).snd.fst, r)], p))) none) none) (some (Sum.inr (Sum.inl (l.take i, p)))) : Option ((Int × List Fd × List At) ⊕ ((List Fd × List At) ⊕ ρ))) = some (.inl (((i + 1 : Nat) : Int), l.take i ++ [l.getD i dF], p)) := by
  rw [show P.ilt (i : Int) (P.len l) = true from ilt_iff.2 (by rw [len_eq]; omega), cond_true, show P.inb (i : Int) (P.len l) = true from inb_iff.2 (by rw [len_eq]; omega), cond_true, get_nat, at_clone K (l.getD i dF).2.2 (by have := hv _ (mem_getD hi); omega), bind_some, room48 _ _ (by rw [List.length_take]; omega), cond_true, wrap_succ (by omega)]
  rfl
theorem copy_end {α : Type} (l : List Fd) (A : Option α) (B : Option α) : P.cond (P.ilt (l.length : Int) (P.len l)) A B = B := by
  rw [show P.ilt (l.length : Int) (P.len l) = false from by rw [Bool.eq_false_iff, Ne, ilt_iff, len_eq]; omega]; rfl
end Go.PL
end
section
open Go Go.PG Go.PL
set_option linter.unusedVariables false
namespace Go.PL
def stepF (F : Fd) (s : Bool × List Fd) (y : Fd) : Bool × List Fd :=
  if s.1 = false ∧ (ltS F.1 y.1 ∨ F.1 = y.1) then (true, if y.1 = F.1 then s.2 ++ [F] else s.2 ++ [F] ++ [y]) else (s.1, if y.1 = F.1 then s.2 else s.2 ++ [y])
def finF (F : Fd) (s : Bool × List Fd) : List Fd := if s.1 = true then s.2 else s.2 ++ [F]
def layF (F : Fd) (l : List Fd) (i : Nat) : Bool × List Fd := (l.take i).foldl (stepF F) (false, [])
theorem layF_succ {F : Fd} {l : List Fd} {i : Nat} (h : i < l.length) : layF F l (i + 1) = stepF F (layF F l i) (l.getD i dF) := by
  unfold layF
  rw [take_getF h, List.foldl_append]
  rfl
theorem layF_len (F : Fd) (l : List Fd) : ∀ i, i ≤ l.length → (layF F l i).2.length ≤ i + 1 ∧ ((layF F l i).1 = false → (layF F l i).2.length ≤ i)
  | 0, _ => by simp [layF]
  | i + 1, h => by
    obtain ⟨h1, h2⟩ := layF_len F l i (by omega)
    rw [layF_succ (by omega)]
    unfold stepF
    by_cases q : (layF F l i).1 = false ∧ (ltS F.1 (l.getD i dF).1 ∨ F.1 = (l.getD i dF).1)
    · rw [if_pos q]
      have := h2 q.1
      refine ⟨?_, fun z => by cases z⟩
      by_cases e : (l.getD i dF).1 = F.1
      · rw [if_pos e]; simp; omega
      · rw [if_neg e]; simp; omega
    · rw [if_neg q]
      by_cases e : (l.getD i dF).1 = F.1
      · rw [if_pos e]
        exact ⟨by show (layF F l i).2.length ≤ _; omega, fun z => by have := h2 z; show (layF F l i).2.length ≤ _; omega⟩
      · rw [if_neg e]
        refine ⟨by simp; omega, fun z => ?_⟩
        have := h2 z
        simp; omega
theorem stepF_true (F : Fd) : ∀ (l acc : List Fd), (∀ y, y ∈ l → y.1 ≠ F.1) → l.foldl (stepF F) (true, acc) = (true, acc ++ l)
  | [], acc, _ => by simp
  | y :: l, acc, h => by
    rw [List.foldl_cons, show stepF F (true, acc) y = (true, acc ++ [y]) from by simp [stepF, h y (by simp)], stepF_true F l _ fun z hz => h z (List.mem_cons_of_mem _ hz)]
    simp
theorem stepF_false (F : Fd) : ∀ (l acc : List Fd), RisesF l → finF F (l.foldl (stepF F) (false, acc)) = acc ++ put l F
  | [], acc, _ => by simp [put, finF]
  | y :: l, acc, h => by
    obtain ⟨h1, h2⟩ := List.pairwise_cons.1 h
    rw [List.foldl_cons]
    unfold put
    by_cases q : ltS F.1 y.1
    · have hne : ∀ z, z ∈ y :: l → z.1 ≠ F.1 := fun z hz e => by
        rcases List.mem_cons.1 hz with rfl | hz
        · rw [e] at q; exact ltS_irrefl _ q
        · have := ltS_trans q (h1 z hz); rw [e] at this; exact ltS_irrefl _ this
      rw [show stepF F (false, acc) y = (true, acc ++ [F] ++ [y]) from by simp [stepF, q, hne y (by simp)], stepF_true F l _ fun z hz => hne z (List.mem_cons_of_mem _ hz), if_pos q]
      simp [finF]
    · rw [if_neg q]
      by_cases e : F.1 = y.1
      · have hne : ∀ z, z ∈ l → z.1 ≠ F.1 := fun z hz e' => by
          have := h1 z hz; rw [e', e] at this; exact ltS_irrefl _ this
        rw [show stepF F (false, acc) y = (true, acc ++ [F]) from by simp [stepF, e], stepF_true F l _ hne, if_pos e]
        simp [finF]
      · rw [show stepF F (false, acc) y = (false, acc ++ [y]) from by simp [stepF, q, e, Ne.symm e], stepF_false F l _ h2, if_neg e]
        simp
theorem layF_all {F : Fd} {l : List Fd} (h : RisesF l) : finF F (layF F l l.length) = put l F := by
  have := stepF_false F l [] h
  unfold layF
  rw [List.take_length]
  simpa using this
theorem ref_with (s : Sp) (F : Fd) (h : RisesF s.1) (hl : s.1.length ≤ 1000000) : ref07_With K (s, F) = some (put s.1 F, s.2) := by
  unfold ref07_With
  try dsimp only
  have run : ∀ f : Bool × Int × List Fd × List At → Option ((Bool × Int × List Fd × List At) ⊕ ((Bool × List Fd × List At) ⊕ Sp)),
      (∀ i : Nat, i < s.1.length → f ((layF F s.1 i).1, (i : Int), (layF F s.1 i).2, s.2) = some (.inl ((layF F s.1 (i + 1)).1, ((i + 1 : Nat) : Int), (layF F s.1 (i + 1)).2, s.2))) →
      f ((layF F s.1 s.1.length).1, (s.1.length : Int), (layF F s.1 s.1.length).2, s.2) = some (.inr (.inl ((layF F s.1 s.1.length).1, (layF F s.1 s.1.length).2, s.2))) →
      P.iter K f (false, (0 : Int), [], s.2) = some (.inl ((layF F s.1 s.1.length).1, (layF F s.1 s.1.length).2, s.2)) := by
    intro f hs he
    exact iter_run (fun i => ((layF F s.1 i).1, (i : Int), (layF F s.1 i).2, s.2)) _ s.1.length 0 K (by unfold K; omega) (fun j hj => by simpa using hs j hj) (by simpa using he)
  rw [run _ ?_ ?_]
  · rw [bind_some, either_inl, ← layF_all h]
    unfold finF
    cases hb : (layF F s.1 s.1.length).1
    · try dsimp only
      rw [show P.not false = true from rfl, cond_true, room48 _ _ (by have := (layF_len F s.1 s.1.length (Nat.le_refl _)).1; omega), cond_true, if_neg (by decide)]; rfl
    · rw [show P.not true = false from rfl, cond_false, if_pos rfl]
  · intro i hi
    try dsimp only
    have hr := (layF_len F s.1 i (by omega)).1
    have r1 : P.room (P.add (P.len (layF F s.1 i).2) (P.len [F])) 48 = true := room48 _ _ (by omega)
    have r2 : P.room (P.add (P.len (layF F s.1 i).2) (P.len [s.1.getD i dF])) 48 = true := room48 _ _ (by omega)
    have r3 : P.room (P.add (P.len (P.app (layF F s.1 i).2 [F])) (P.len [s.1.getD i dF])) 48 = true := room48 _ _ (by simp [P.app]; omega)
    simp only [show P.ilt (i : Int) (P.len s.1) = true from ilt_iff.2 (by rw [len_eq]; omega), show P.inb (i : Int) (P.len s.1) = true from inb_iff.2 (by rw [len_eq]; omega), cond_true, get_nat, wrap_succ (show i + 1 < 9223372036854775808 by omega), r1, r2, r3]
    rw [layF_succ hi]
    unfold stepF
    simp only [cond_eq, not_iff, sle_iff, seq_iff]
    generalize hb : (layF F s.1 i).1 = b
    generalize hg : s.1.getD i dF = g
    generalize hA : (layF F s.1 i).2 = A
    cases b
    · by_cases q : ltS F.1 g.1 ∨ F.1 = g.1
      · by_cases e : g.1 = F.1
        · simp [q, e, P.app]
        · simp [q, e, P.app]
      · by_cases e : g.1 = F.1
        · exact absurd (.inr e.symm) q
        · simp [q, e, P.app]
    · by_cases e : g.1 = F.1
      · simp [e]
      · simp [e, P.app]
  · try dsimp only
    rw [show P.ilt (s.1.length : Int) (P.len s.1) = false from by rw [Bool.eq_false_iff, Ne, ilt_iff, len_eq]; omega]; rfl
theorem ref_strong (s : Sp) (n : ByteArray) (v : List At) (h : FewS s) (hv : v.length ≤ 1000000) : ref07_Strong K (s, n, v) = some (strong s n v) := by
  unfold ref07_Strong strong
  try dsimp only
  rw [ref_may7 s h, bind_some]
  by_cases hm : MayO s
  · rw [decide_eq_true hm, show P.not true = false from rfl, cond_false, if_pos hm, ref_norm v (by omega), bind_some, ref_with s _ hm.1 (by have := h.1; omega), bind_some]
  · rw [decide_eq_false hm, show P.not false = true from rfl, cond_true, if_neg hm]
end Go.PL
end
section
open Go Go.PG Go.PL
set_option linter.unusedVariables false
namespace Go.PL
def renF (s : Int) (f : Fd) : Fd := (f.1, f.2.1, norm (f.2.2.map (renA s)))
def rename (o : Sp) (s : Int) : Sp := if MayO o then (o.1.map (renF s), norm (o.2.map (renA s))) else ([], [])
theorem ref_rename7 (o : Sp) (s : Int) (h : FewS o) : ref07_Rename K (o, s) = some (rename o s) := by
  unfold ref07_Rename rename
  try dsimp only
  rw [ref_may7 o h, bind_some]
  by_cases hm : MayO o
  · rw [decide_eq_true hm, show P.not true = false from rfl, cond_false, if_pos hm, ref_rename o.2 s (by have := h.2.2; omega), bind_some]
    have run : ∀ f : Int × List Fd × List At → Option ((Int × List Fd × List At) ⊕ ((List Fd × List At) ⊕ Sp)),
        (∀ i : Nat, i < o.1.length → f ((i : Int), (o.1.take i).map (renF s), norm (o.2.map (renA s))) = some (.inl (((i + 1 : Nat) : Int), (o.1.take i).map (renF s) ++ [renF s (o.1.getD i dF)], norm (o.2.map (renA s))))) →
        f ((o.1.length : Int), o.1.map (renF s), norm (o.2.map (renA s))) = some (.inr (.inl (o.1.map (renF s), norm (o.2.map (renA s))))) →
        P.iter K f (0, [], norm (o.2.map (renA s))) = some (.inl (o.1.map (renF s), norm (o.2.map (renA s)))) := by
      intro f hs he
      refine iter_run (fun i => ((i : Int), (o.1.take i).map (renF s), norm (o.2.map (renA s)))) _ o.1.length 0 K (by have := h.1; unfold K; omega) (fun j hj => ?_) (by simpa using he)
      have := hs j hj
      simp only [Nat.zero_add]
      rw [this, take_getF hj, List.map_append]
      rfl
    rw [run _ ?_ ?_]
    · rfl
    · intro i hi
      try dsimp only
      have hl := h.1
      rw [show P.ilt (i : Int) (P.len o.1) = true from ilt_iff.2 (by rw [len_eq]; omega), cond_true, show P.inb (i : Int) (P.len o.1) = true from inb_iff.2 (by rw [len_eq]; omega), cond_true, get_nat, ref_rename (o.1.getD i dF).2.2 s (by have := h.2.1 _ (mem_getD hi); omega), bind_some, room48 _ _ (by rw [List.length_map, List.length_take]; omega), cond_true, wrap_succ (by omega)]
      rfl
    · try dsimp only
      exact copy_end _ _ _
  · rw [decide_eq_false hm, show P.not false = true from rfl, cond_true, if_neg hm]
end Go.PL
end
section
open Go Go.PG Go.PL
set_option linter.unusedVariables false
namespace Go.PL
def FldIn (b : List Fd) (f : Fd) : Prop := (getR b f.1).2 = true ∧ Within f.2.2 (getR b f.1).1.2.2 ∧ ((getR b f.1).1.2.1 = true → f.2.1 = true)
instance (b : List Fd) (f : Fd) : Decidable (FldIn b f) := by unfold FldIn; exact inferInstance
def SureIn (a : List Fd) (g : Fd) : Prop := g.2.1 = true → (getR a g.1).2 = true
instance (a : List Fd) (g : Fd) : Decidable (SureIn a g) := by unfold SureIn; exact inferInstance
def WithinO (a b : Sp) : Prop := MayO a ∧ MayO b ∧ Within a.2 b.2 ∧ (∀ f, f ∈ a.1 → FldIn b.1 f) ∧ ∀ g, g ∈ b.1 → SureIn a.1 g
instance (a b : Sp) : Decidable (WithinO a b) := by unfold WithinO; exact inferInstance
theorem getR_snd (l : List Fd) (n : ByteArray) : (getR l n).2 = (get l n).isSome := by unfold getR; cases get l n <;> rfl
end Go.PL
end
section
open Go Go.PG Go.PL
set_option linter.unusedVariables false
namespace Go.PL
end Go.PL
end
section
open Go Go.PG Go.PL
set_option linter.unusedVariables false
namespace Go.PL
def SmallS (s : Sp) : Prop := (∀ f, f ∈ s.1 → f.2.2.length ≤ 60) ∧ s.1.length ≤ 60 ∧ s.2.length ≤ 60
instance (s : Sp) : Decidable (SmallS s) := by unfold SmallS; exact inferInstance
end Go.PL
end
section
open Go Go.PG Go.PL
set_option linter.unusedVariables false
namespace Go.PL
def joinF (a b : List Fd) (n : ByteArray) : Fd := (n, (getR a n).2 && (getR b n).2 && (getR a n).1.2.1 && (getR b n).1.2.1, norm ((getR a n).1.2.2 ++ (getR b n).1.2.2))
def foldJ (a b l acc : List Fd) : List Fd := l.foldl (fun out f => put out (joinF a b f.1)) acc
def has (l : List Fd) (n : ByteArray) : Bool := (get l n).isSome
theorem has_cons (f : Fd) (l : List Fd) (n : ByteArray) : has (f :: l) n = (decide (f.1 = n) || has l n) := by
  unfold has get
  rw [List.find?_cons]
  by_cases q : f.1 = n <;> simp [q]
theorem has_append (l m : List Fd) (n : ByteArray) : has (l ++ m) n = (has l n || has m n) := by
  induction l with
  | nil => simp [has, get]
  | cons f l ih => rw [List.cons_append, has_cons, has_cons, ih, Bool.or_assoc]
theorem foldJ_spec (a b : List Fd) : ∀ (l acc : List Fd), RisesF acc → RisesF (foldJ a b l acc) ∧ ∀ n, get (foldJ a b l acc) n = if has l n = true then some (joinF a b n) else get acc n := by
  intro l
  induction l with
  | nil => intro acc h; exact ⟨h, fun n => by simp [foldJ, has, get]⟩
  | cons f l ih =>
    intro acc h
    obtain ⟨h1, h2⟩ := ih (put acc (joinF a b f.1)) (put_rises h)
    refine ⟨h1, fun n => ?_⟩
    show get (foldJ a b l (put acc (joinF a b f.1))) n = _
    rw [h2, get_put h, has_cons]
    by_cases q : has l n = true
    · rw [if_pos q, if_pos (by rw [q]; simp)]
    · rw [if_neg q]
      by_cases e : f.1 = n
      · rw [if_pos (show (joinF a b f.1).1 = n from e), if_pos (by simp [e]), e]
      · rw [if_neg (show ¬ (joinF a b f.1).1 = n from e), if_neg (by simp [e, q])]
def joinL (a b : List Fd) : List Fd := foldJ a b (a ++ b) []
theorem joinL_rises (a b : List Fd) : RisesF (joinL a b) := (foldJ_spec a b _ [] List.Pairwise.nil).1
theorem get_joinL (a b : List Fd) (n : ByteArray) : get (joinL a b) n = if (has a n || has b n) = true then some (joinF a b n) else none := by
  unfold joinL
  rw [(foldJ_spec a b _ [] List.Pairwise.nil).2, has_append]
  rfl
def join (a b : Sp) : Sp := if MayO a ∧ MayO b then (joinL a.1 b.1, norm (a.2 ++ b.2)) else ([], [])
end Go.PL
end
section
open Go Go.PG Go.PL
set_option linter.unusedVariables false
namespace Go.PL
theorem foldJ_length (a b : List Fd) : ∀ (l acc : List Fd), (foldJ a b l acc).length ≤ acc.length + l.length := by
  have hput : ∀ (f : Fd) (l : List Fd), (put l f).length ≤ l.length + 1 := by
    intro f l
    induction l with
    | nil => simp [put]
    | cons g l ih =>
      unfold put
      split
      · simp
      · split
        · simp
        · simp; exact ih
  intro l
  induction l with
  | nil => intro acc; simp [foldJ]
  | cons f l ih =>
    intro acc
    have h1 := ih (put acc (joinF a b f.1))
    have h2 := hput (joinF a b f.1) acc
    show (foldJ a b l (put acc (joinF a b f.1))).length ≤ _
    simp only [List.length_cons]
    omega
theorem foldJ_take (a b l : List Fd) {i : Nat} (h : i < l.length) : foldJ a b (l.take (i + 1)) [] = put (foldJ a b (l.take i) []) (joinF a b (l.getD i dF).1) := by
  unfold foldJ
  rw [take_getF h, List.foldl_append]
  rfl
theorem inner_join (a b : Sp) (ha : FewS a) (hb : FewS b) (out : List Fd) (p : List At) (ho : RisesF out) (hl : out.length ≤ 900000) (nm : ByteArray) (i : Int) :
    (P.bind (ref07_Get K (a, nm)) fun (r : (ByteArray × Bool × List (Int × Int)) × Bool) => P.bind (ref07_Get K (b, nm)) fun (r_1 : (ByteArray × Bool × List (Int × Int)) × Bool) => P.cond r.snd (P.cond r_1.snd (P.cond r.fst.snd.fst (P.bind (ref06_Union K (r.fst.snd.snd, r_1.fst.snd.snd)) fun (r : List (Int × Int)) => P.bind (ref07_With K ((out, p), nm, r_1.fst.snd.fst, r)) fun (r : List (ByteArray × Bool × List (Int × Int)) × List (Int × Int)) => some (Sum.inl (i, r))) (P.bind (ref06_Union K (r.fst.snd.snd, r_1.fst.snd.snd)) fun (r : List (Int × Int)) => P.bind (ref07_With K ((out, p), nm, false, r)) fun (r : List (ByteArray × Bool × List (Int × Int)) × List (Int × Int)) => some (Sum.inl (i, r)))) (P.bind (ref06_Union K (r.fst.snd.snd, r_1.fst.snd.snd)) fun (r : List (Int × Int)) => P.bind (ref07_With K ((out, p), nm, false, r)) fun (r : List (ByteArray × Bool × List (Int × Int)) × List (Int × Int)) => some (Sum.inl (i, r)))) (P.bind (ref06_Union K (r.fst.snd.snd, r_1.fst.snd.snd)) fun (r : List (Int × Int)) => P.bind (ref07_With K ((out, p), nm, false, r)) fun (r : List (ByteArray × Bool × List (Int × Int)) × List (Int × Int)) => some (Sum.inl (i, r))) : Option ((Int × Sp) ⊕ (Sp ⊕ Sp))) = some (.inl (i, put out (joinF a.1 b.1 nm), p)) := by
  have w1 := getR_few ha nm
  have w2 := getR_few hb nm
  rw [ref_get a nm (by have := ha.1; omega), bind_some, ref_get b nm (by have := hb.1; omega), bind_some, ref_union _ _ (by omega), bind_some, bind_some]
  unfold joinF
  generalize getR a.1 nm = R at *
  generalize getR b.1 nm = R' at *
  rw [ref_with (out, p) _ ho (by simp; omega), ref_with (out, p) _ ho (by simp; omega)]
  cases R.2 <;> cases R'.2 <;> cases R.1.2.1 <;> rfl
end Go.PL
end
section
open Go Go.PG Go.PL
set_option linter.unusedVariables false
namespace Go.PL
theorem ref_join (a b : Sp) (ha : FewS a) (hb : FewS b) : ref07_Join K (a, b) = some (join a b) := by
  unfold ref07_Join join
  try dsimp only
  have hal := ha.1; have hbl := hb.1
  rw [ref_may7 a ha, bind_some]
  by_cases m1 : MayO a
  · rw [decide_eq_true m1, show P.not true = false from rfl, cond_false, ref_may7 b hb, bind_some]
    by_cases m2 : MayO b
    · rw [decide_eq_true m2, show P.not true = false from rfl, cond_false, if_pos ⟨m1, m2⟩, ref_union a.2 b.2 (by have := ha.2.2; have := hb.2.2; omega), bind_some]
      have hlen : (a.1 ++ b.1).length = a.1.length + b.1.length := by simp
      have run : ∀ f : Int × Sp → Option ((Int × Sp) ⊕ (Sp ⊕ Sp)),
          (∀ i : Nat, i < (a.1 ++ b.1).length → f ((i : Int), foldJ a.1 b.1 ((a.1 ++ b.1).take i) [], norm (a.2 ++ b.2)) = some (.inl (((i + 1 : Nat) : Int), put (foldJ a.1 b.1 ((a.1 ++ b.1).take i) []) (joinF a.1 b.1 ((a.1 ++ b.1).getD i dF).1), norm (a.2 ++ b.2)))) →
          f (((a.1 ++ b.1).length : Int), joinL a.1 b.1, norm (a.2 ++ b.2)) = some (.inr (.inl (joinL a.1 b.1, norm (a.2 ++ b.2)))) →
          P.iter K f (0, [], norm (a.2 ++ b.2)) = some (.inl (joinL a.1 b.1, norm (a.2 ++ b.2))) := by
        intro f hs he
        refine iter_run (f := f) (fun i => ((i : Int), foldJ a.1 b.1 ((a.1 ++ b.1).take i) [], norm (a.2 ++ b.2))) _ (a.1 ++ b.1).length 0 K (by unfold K; omega) (fun j hj => ?_) (by simp only [Nat.zero_add, List.take_length]; exact he)
        simp only [Nat.zero_add]
        rw [hs j hj, foldJ_take _ _ _ hj]
      rw [run _ ?_ ?_]
      · rfl
      · intro i hi
        try dsimp only
        have ho := (foldJ_spec a.1 b.1 ((a.1 ++ b.1).take i) [] List.Pairwise.nil).1
        have hol := foldJ_length a.1 b.1 ((a.1 ++ b.1).take i) []
        rw [List.length_take] at hol
        simp only [List.length_nil] at hol
        have e : P.wrap IntKind.i64 (P.add (P.len a.1) (P.len b.1)) = ((a.1.length + b.1.length : Nat) : Int) := by
          rw [show P.add (P.len a.1) (P.len b.1) = ((a.1.length + b.1.length : Nat) : Int) from by simp [P.add, P.len], wrap_nat (by omega)]
        rw [e, show P.ilt (i : Int) ((a.1.length + b.1.length : Nat) : Int) = true from ilt_iff.2 (by omega), cond_true, wrap_succ (by omega)]
        by_cases h1 : i < a.1.length
        · rw [show P.ilt (i : Int) (P.len a.1) = true from ilt_iff.2 (by rw [len_eq]; omega), cond_true, show P.inb (i : Int) (P.len a.1) = true from inb_iff.2 (by rw [len_eq]; omega), cond_true, get_nat]
          rw [show (a.1 ++ b.1).getD i dF = a.1.getD i dF from by simp [List.getD_eq_getElem?_getD, List.getElem?_append_left h1]]
          exact inner_join a b ha hb _ _ ho (by omega) _ _
        · have e2 : P.wrap IntKind.i64 (P.sub (i : Int) (P.len a.1)) = ((i - a.1.length : Nat) : Int) := by
            rw [show P.sub (i : Int) (P.len a.1) = ((i - a.1.length : Nat) : Int) from by simp only [P.sub, P.len]; omega, wrap_nat (by omega)]
          rw [show P.ilt (i : Int) (P.len a.1) = false from by rw [Bool.eq_false_iff, Ne, ilt_iff, len_eq]; omega, cond_false, e2, show P.inb ((i - a.1.length : Nat) : Int) (P.len b.1) = true from inb_iff.2 (by rw [len_eq]; omega), cond_true, get_nat]
          rw [show (a.1 ++ b.1).getD i dF = b.1.getD (i - a.1.length) dF from by simp [List.getD_eq_getElem?_getD, List.getElem?_append_right (Nat.not_lt.1 h1)]]
          exact inner_join a b ha hb _ _ ho (by omega) _ _
      · try dsimp only
        have e : P.wrap IntKind.i64 (P.add (P.len a.1) (P.len b.1)) = (((a.1 ++ b.1).length : Nat) : Int) := by
          rw [show P.add (P.len a.1) (P.len b.1) = ((a.1.length + b.1.length : Nat) : Int) from by simp [P.add, P.len], wrap_nat (by omega), hlen]
        rw [e, show P.ilt (((a.1 ++ b.1).length : Nat) : Int) (((a.1 ++ b.1).length : Nat) : Int) = false from by rw [Bool.eq_false_iff, Ne, ilt_iff]; omega]
        rfl
    · rw [decide_eq_false m2, show P.not false = true from rfl, cond_true, if_neg fun z => m2 z.2]
  · rw [decide_eq_false m1, show P.not false = true from rfl, cond_true, if_neg fun z => m1 z.1]
end Go.PL
end
section
open Go Go.PG Go.PL
set_option linter.unusedVariables false
namespace Go.PL
end Go.PL
end
section
open Go Go.PG Go.PL
set_option linter.unusedVariables false
namespace Go.PL
end Go.PL
end
section
open Go Go.PG Go.PL
set_option linter.unusedVariables false
namespace Go.PL
end Go.PL
end
section
open Go Go.PG Go.PL
set_option linter.unusedVariables false
namespace Go.PL
theorem get_map {l : List Fd} {g : Fd → Fd} (hg : ∀ f, (g f).1 = f.1) (n : ByteArray) : get (l.map g) n = (get l n).map g := by
  induction l with
  | nil => rfl
  | cons f l ih =>
    simp only [get, List.map_cons, List.find?_cons, hg] at ih ⊢
    by_cases q : f.1 = n
    · simp only [q, decide_true, Option.map_some]
    · simp only [q, decide_false]
      exact ih
theorem rises_map {l : List Fd} {g : Fd → Fd} (hg : ∀ f, (g f).1 = f.1) (h : RisesF l) : RisesF (l.map g) := by
  refine List.pairwise_map.2 (h.imp fun {a b} q => ?_)
  rw [hg, hg]; exact q
end Go.PL
end
section
open Go Go.PG Go.PL
set_option linter.unusedVariables false
namespace Go.PL
end Go.PL
end
section
open Go Go.PG Go.PL
set_option linter.unusedVariables false
namespace Go.PL
instance (s : Sp) : Decidable (FewS s) := by unfold FewS; exact inferInstance
end Go.PL
end
section
open Go Go.PG Go.PL
set_option linter.unusedVariables false
namespace Go.PL
def pr (l : List Fd) (n : ByteArray) : Bool := (getR l n).2
def su (l : List Fd) (n : ByteArray) : Bool := (getR l n).1.2.1
def va (l : List Fd) (n : ByteArray) : List At := (getR l n).1.2.2
theorem get_view (l : List Fd) (n : ByteArray) : get l n = if pr l n = true then some (n, su l n, va l n) else none := by
  unfold pr su va getR
  cases q : get l n with
  | none => rfl
  | some f =>
    have := get_name q
    simp only [if_true]
    rw [← this]
theorem view_none {l : List Fd} {n : ByteArray} (h : pr l n = false) : su l n = false ∧ va l n = [] := by
  unfold pr su va getR at *
  cases q : get l n with
  | none => simp
  | some f => rw [q] at h; simp at h
theorem view_of_get {l : List Fd} {n : ByteArray} {p s : Bool} {v : List At} (h : get l n = if p = true then some (n, s, v) else none) (hn : p = false → s = false ∧ v = []) : pr l n = p ∧ su l n = s ∧ va l n = v := by
  unfold pr su va getR
  rw [h]
  cases p
  · obtain ⟨h1, h2⟩ := hn rfl; simp [h1, h2]
  · simp
theorem su_pr {l : List Fd} {n : ByteArray} (h : su l n = true) : pr l n = true := by
  cases q : pr l n
  · rw [(view_none q).1] at h; cases h
  · rfl
theorem view_ext {l m : List Fd} (hl : RisesF l) (hm : RisesF m) (h : ∀ n, pr l n = pr m n ∧ su l n = su m n ∧ va l n = va m n) : l = m :=
  risesF_ext hl hm fun n => by rw [get_view, get_view, (h n).1, (h n).2.1, (h n).2.2]
theorem has_pr (l : List Fd) (n : ByteArray) : has l n = pr l n := (getR_snd l n).symm
theorem va_canon {s : Sp} (h : MayO s) (n : ByteArray) : Canon (va s.1 n) := by
  unfold va getR
  cases q : get s.1 n with
  | none => exact canon_iff.1 rfl
  | some f => exact canon_iff.1 (h.2.1 f (get_mem q))
theorem may_of_view {s : Sp} (h : RisesF s.1) (hv : ∀ n, Canon (va s.1 n)) (hp : Canon s.2) : MayO s := by
  refine ⟨h, fun f hf => canon_iff.2 ?_, canon_iff.2 hp⟩
  have := hv f.1
  unfold va getR at this
  rw [get_of_mem h hf] at this
  exact this
theorem sp_ext {a b : Sp} (ha : MayO a) (hb : MayO b) (hp : a.2 = b.2) (h : ∀ n, pr a.1 n = pr b.1 n ∧ su a.1 n = su b.1 n ∧ va a.1 n = va b.1 n) : a = b :=
  Prod.ext (view_ext ha.1 hb.1 h) hp
theorem canon_ext {l m : List At} (hl : Canon l) (hm : Canon m) (h : ∀ z, z ∈ l ↔ z ∈ m) : l = m := rises_ext hl.1 hm.1 h
def WinV (a b : List Fd) (n : ByteArray) : Prop := (pr a n = true → pr b n = true) ∧ Within (va a n) (va b n) ∧ (su b n = true → su a n = true)
theorem within_view {a b : Sp} : WithinO a b ↔ MayO a ∧ MayO b ∧ Within a.2 b.2 ∧ ∀ n, WinV a.1 b.1 n := by
  unfold WithinO
  constructor
  · rintro ⟨h1, h2, h3, h4, h5⟩
    refine ⟨h1, h2, h3, fun n => ?_⟩
    have key : pr a.1 n = true → FldIn b.1 (n, su a.1 n, va a.1 n) := fun h => by
      have := get_view a.1 n
      rw [if_pos h] at this
      exact h4 _ (get_mem this)
    have sk : su b.1 n = true → pr a.1 n = true := fun h => by
      have := get_view b.1 n
      rw [if_pos (su_pr h)] at this
      exact h5 _ (get_mem this) h
    refine ⟨fun h => (key h).1, ?_, fun h => (key (sk h)).2.2 h⟩
    by_cases q : pr a.1 n = true
    · exact (key q).2.1
    · rw [(view_none (Bool.not_eq_true _ ▸ q)).2]; intro z hz; cases hz
  · rintro ⟨h1, h2, h3, h4⟩
    refine ⟨h1, h2, h3, fun f hf => ?_, fun g hg hs => ?_⟩
    · have e := get_of_mem h1.1 hf
      have p1 : pr a.1 f.1 = true := by unfold pr getR; rw [e]
      have p2 : su a.1 f.1 = f.2.1 := by unfold su getR; rw [e]
      have p3 : va a.1 f.1 = f.2.2 := by unfold va getR; rw [e]
      obtain ⟨q1, q2, q3⟩ := h4 f.1
      rw [p2] at q3; rw [p3] at q2
      exact ⟨q1 p1, q2, q3⟩
    · have e := get_of_mem h2.1 hg
      have p2 : su b.1 g.1 = g.2.1 := by unfold su getR; rw [e]
      exact su_pr ((h4 g.1).2.2 (by rw [p2]; exact hs))
theorem join_view (a b : List Fd) (n : ByteArray) : pr (joinL a b) n = (pr a n || pr b n) ∧ su (joinL a b) n = (su a n && su b n) ∧ va (joinL a b) n = norm (va a n ++ va b n) := by
  refine view_of_get ?_ fun h => ?_
  · rw [get_joinL, has_pr, has_pr]
    have : joinF a b n = (n, (su a n && su b n), norm (va a n ++ va b n)) := by
      show (n, pr a n && pr b n && su a n && su b n, norm (va a n ++ va b n)) = _
      congr 2
      cases q1 : su a n
      · simp
      · cases q2 : su b n
        · simp
        · simp [su_pr q1, su_pr q2]
    rw [this]
  · rw [Bool.or_eq_false_iff] at h
    rw [(view_none h.1).1, (view_none h.1).2, (view_none h.2).2]
    exact ⟨rfl, rfl⟩
theorem join_eq {a b : Sp} (ha : MayO a) (hb : MayO b) : join a b = (joinL a.1 b.1, norm (a.2 ++ b.2)) := by unfold join; rw [if_pos ⟨ha, hb⟩]
theorem join_may {a b : Sp} (ha : MayO a) (hb : MayO b) : MayO (join a b) := by
  rw [join_eq ha hb]
  refine may_of_view (joinL_rises _ _) (fun n => ?_) (norm_canon _)
  show Canon (va (joinL a.1 b.1) n)
  rw [(join_view a.1 b.1 n).2.2]
  exact norm_canon _
theorem mem_normA {l m : List At} (hl : Canon l) (hm : Canon m) {z : At} : z ∈ norm (l ++ m) ↔ z ∈ l ∨ z ∈ m := by
  rw [mem_norm, List.mem_append]
  exact ⟨fun h => h.1, fun h => ⟨h, h.elim (hl.2 z) (hm.2 z)⟩⟩
theorem prot_canon {s : Sp} (h : MayO s) : Canon s.2 := canon_iff.1 h.2.2
theorem within_join_left {a b : Sp} (ha : MayO a) (hb : MayO b) : WithinO a (join a b) := by
  rw [within_view]
  refine ⟨ha, join_may ha hb, ?_, fun n => ?_⟩
  · rw [join_eq ha hb]; exact fun z hz => (mem_normA (prot_canon ha) (prot_canon hb)).2 (.inl hz)
  · rw [join_eq ha hb]
    obtain ⟨h1, h2, h3⟩ := join_view a.1 b.1 n
    unfold WinV
    show (_ → pr (joinL a.1 b.1) n = true) ∧ Within _ (va (joinL a.1 b.1) n) ∧ (su (joinL a.1 b.1) n = true → _)
    rw [h1, h2, h3]
    exact ⟨fun h => by rw [h]; rfl, fun z hz => (mem_normA (va_canon ha n) (va_canon hb n)).2 (.inl hz), fun h => (Bool.and_eq_true _ _ ▸ h).1⟩
theorem join_comm {a b : Sp} (ha : MayO a) (hb : MayO b) : join a b = join b a := by
  have key : ∀ {l m : List At}, Canon l → Canon m → norm (l ++ m) = norm (m ++ l) := fun hl hm => canon_ext (norm_canon _) (norm_canon _) fun z => by rw [mem_normA hl hm, mem_normA hm hl, or_comm]
  refine sp_ext (join_may ha hb) (join_may hb ha) ?_ fun n => ?_
  · rw [join_eq ha hb, join_eq hb ha]; exact key (prot_canon ha) (prot_canon hb)
  · rw [join_eq ha hb, join_eq hb ha]
    obtain ⟨h1, h2, h3⟩ := join_view a.1 b.1 n
    obtain ⟨g1, g2, g3⟩ := join_view b.1 a.1 n
    show pr (joinL a.1 b.1) n = pr (joinL b.1 a.1) n ∧ su (joinL a.1 b.1) n = su (joinL b.1 a.1) n ∧ va (joinL a.1 b.1) n = va (joinL b.1 a.1) n
    rw [h1, h2, h3, g1, g2, g3, Bool.or_comm, Bool.and_comm]
    exact ⟨rfl, rfl, key (va_canon ha n) (va_canon hb n)⟩
theorem within_join_right {a b : Sp} (ha : MayO a) (hb : MayO b) : WithinO b (join a b) := by
  rw [join_comm ha hb]; exact within_join_left hb ha
end Go.PL
end
section
open Go Go.PG Go.PL
set_option linter.unusedVariables false
namespace Go.PL
theorem put_view {l : List Fd} (hl : RisesF l) (f : Fd) (m : ByteArray) : pr (put l f) m = (if f.1 = m then true else pr l m) ∧ su (put l f) m = (if f.1 = m then f.2.1 else su l m) ∧ va (put l f) m = (if f.1 = m then f.2.2 else va l m) := by
  unfold pr su va getR
  rw [get_put hl]
  by_cases q : f.1 = m
  · simp [q]
  · simp [q]
theorem strong_eq {s : Sp} (h : MayO s) (n : ByteArray) (v : List At) : strong s n v = (put s.1 (n, true, norm v), s.2) := by unfold strong; rw [if_pos h]
theorem put_may {s : Sp} (h : MayO s) (n : ByteArray) (b : Bool) {v : List At} (hv : Canon v) : MayO (put s.1 (n, b, v), s.2) := by
  refine may_of_view (put_rises h.1) (fun m => ?_) (show Canon s.2 from prot_canon h)
  show Canon (va (put s.1 (n, b, v)) m)
  rw [(put_view h.1 (n, b, v) m).2.2]
  split
  · exact hv
  · exact va_canon h m
theorem strong_may {s : Sp} (h : MayO s) (n : ByteArray) (v : List At) : MayO (strong s n v) := by rw [strong_eq h]; exact put_may h n _ (norm_canon _)
theorem rename_eq {o : Sp} (h : MayO o) (s : Int) : rename o s = (o.1.map (renF s), norm (o.2.map (renA s))) := by unfold rename; rw [if_pos h]
theorem ren_view (l : List Fd) (s : Int) (n : ByteArray) : pr (l.map (renF s)) n = pr l n ∧ su (l.map (renF s)) n = su l n ∧ va (l.map (renF s)) n = norm ((va l n).map (renA s)) := by
  unfold pr su va getR
  rw [get_map (g := renF s) (fun _ => rfl)]
  cases q : get l n with
  | none => exact ⟨rfl, rfl, rfl⟩
  | some f => exact ⟨rfl, rfl, rfl⟩
theorem rename_may {o : Sp} (h : MayO o) (s : Int) : MayO (rename o s) := by
  rw [rename_eq h]
  refine may_of_view (rises_map (g := renF s) (fun _ => rfl) h.1) (fun n => ?_) (norm_canon _)
  show Canon (va (o.1.map (renF s)) n)
  rw [(ren_view o.1 s n).2.2]
  exact norm_canon _
theorem renA_right {s : Int} {x : At} (h : RightA x) : RightA (renA s x) := by
  unfold renA
  split
  · rename_i q
    subst q
    unfold RightA at *
    simp only at *
    omega
  · exact h
theorem mem_ren {l : List At} (hl : Canon l) {s : Int} {z : At} : z ∈ norm (l.map (renA s)) ↔ ∃ x, x ∈ l ∧ renA s x = z := by
  rw [mem_norm, List.mem_map]
  exact ⟨fun h => h.1, fun h => ⟨h, by obtain ⟨x, hx, rfl⟩ := h; exact renA_right (hl.2 x hx)⟩⟩
def Bd (k : Nat) (s : Sp) : Prop := s.1.length ≤ k ∧ (∀ f, f ∈ s.1 → f.2.2.length ≤ k) ∧ s.2.length ≤ k
theorem bd_few {s : Sp} {k : Nat} (h : Bd k s) (hk : k ≤ 100000) : FewS s := ⟨Nat.le_trans h.1 hk, fun f hf => Nat.le_trans (h.2.1 f hf) hk, Nat.le_trans h.2.2 hk⟩
theorem bd_va {s : Sp} {k : Nat} (h : Bd k s) (n : ByteArray) : (va s.1 n).length ≤ k := by
  unfold va getR
  cases q : get s.1 n with
  | none => simp
  | some f => exact h.2.1 f (get_mem q)
theorem put_len (f : Fd) (l : List Fd) : (put l f).length ≤ l.length + 1 := by
  induction l with
  | nil => simp [put]
  | cons g l ih =>
    unfold put
    split
    · simp
    · split
      · simp
      · simp; exact ih
theorem bd_empty (k : Nat) : Bd k (([], []) : Sp) := ⟨by simp, by simp, by simp⟩
theorem join_bd {a b : Sp} {i j : Nat} (h1 : Bd i a) (h2 : Bd j b) : Bd (i + j) (join a b) := by
  unfold join
  split
  · refine ⟨?_, fun f hf => ?_, ?_⟩
    · have := foldJ_length a.1 b.1 (a.1 ++ b.1) []
      rw [List.length_append] at this
      have := h1.1; have := h2.1
      show (foldJ a.1 b.1 (a.1 ++ b.1) []).length ≤ _
      simp only [List.length_nil] at *
      omega
    · have h := get_of_mem (joinL_rises a.1 b.1) hf
      have e : va (joinL a.1 b.1) f.1 = f.2.2 := by unfold va getR; rw [h]
      rw [← e, (join_view a.1 b.1 f.1).2.2]
      have := norm_length (va a.1 f.1 ++ va b.1 f.1)
      rw [List.length_append] at this
      have := bd_va h1 f.1; have := bd_va h2 f.1
      omega
    · have := norm_length (a.2 ++ b.2)
      rw [List.length_append] at this
      have := h1.2.2; have := h2.2.2
      show (norm (a.2 ++ b.2)).length ≤ _
      omega
  · exact bd_empty _
theorem put_bd {s : Sp} {k j : Nat} (h : Bd k s) {f : Fd} (hf : f.2.2.length ≤ j) (hk : k + 1 ≤ j) : Bd j (put s.1 f, s.2) := by
  refine ⟨?_, fun g hg => ?_, ?_⟩
  · have := put_len f s.1; have := h.1; show (put s.1 f).length ≤ _; omega
  · rcases put_names hg with rfl | ⟨q, _⟩
    · exact hf
    · have := h.2.1 g q; omega
  · have := h.2.2; show s.2.length ≤ _; omega
theorem strong_bd {s : Sp} {k j : Nat} (h : Bd k s) (n : ByteArray) {v : List At} (hv : v.length ≤ j) : Bd (k + j + 1) (strong s n v) := by
  unfold strong
  split
  · refine put_bd h ?_ (by omega)
    have := norm_length v
    show (norm v).length ≤ _
    omega
  · exact bd_empty _
theorem rename_bd {s : Sp} {k : Nat} (h : Bd k s) (i : Int) : Bd k (rename s i) := by
  unfold rename
  split
  · refine ⟨by have := h.1; simpa using this, fun f hf => ?_, ?_⟩
    · obtain ⟨g, hg, rfl⟩ := List.mem_map.1 hf
      have := norm_length (g.2.2.map (renA i))
      rw [List.length_map] at this
      have := h.2.1 g hg
      show (norm (g.2.2.map (renA i))).length ≤ _
      omega
    · have := norm_length (s.2.map (renA i))
      rw [List.length_map] at this
      have := h.2.2
      show (norm (s.2.map (renA i))).length ≤ _
      omega
  · exact bd_empty _
end Go.PL
end
section
open Go Go.PG Go.PL
set_option linter.unusedVariables false
namespace Go.PL
theorem beq_refl (b : Bool) : P.beq b b = true := beq_iff.2 rfl
end Go.PL
end
section
open Go Go.PG Go.PL
set_option linter.unusedVariables false
namespace Go.PL
end Go.PL
end
section
open Go Go.PG Go.PL
set_option linter.all false
namespace Go.PL
abbrev Bv := ByteArray × List At
abbrev Lc := At × Sp
abbrev Sta := Bool × List Bv × List Lc
abbrev dB : Bv := (⟨#[]⟩, [])
abbrev dL : Lc := ((0, 0), [], [])
theorem getD_mem {α : Type} {l : List α} {i : Nat} (h : i < l.length) (d : α) : l.getD i d ∈ l := by
  simp [List.getD_eq_getElem?_getD, h]
theorem forall_getD {α : Type} {l : List α} (d : α) {p : α → Prop} : (∀ i, i < l.length → p (l.getD i d)) ↔ ∀ f, f ∈ l → p f := by
  constructor
  · intro h f hf
    obtain ⟨i, hi, rfl⟩ := List.getElem_of_mem hf
    have := h i hi
    simpa [List.getD_eq_getElem?_getD, hi] using this
  · intro h i hi; exact h _ (getD_mem hi d)
theorem pair_steps {α : Type} {R : α → α → Prop} (tr : ∀ {a b c}, R a b → R b c → R a c) (l : List α) (d : α) : (∀ i, i < l.length → 0 < i → R (l.getD (i - 1) d) (l.getD i d)) ↔ l.Pairwise R := by
  constructor
  · intro h
    have key : ∀ k i, i + k + 1 < l.length → R (l.getD i d) (l.getD (i + k + 1) d) := by
      intro k
      induction k with
      | zero => intro i hi; have := h (i + 1) hi (by omega); simpa using this
      | succ k ih =>
        intro i hi
        have h1 := ih i (by omega)
        have h2 := h (i + (k + 1) + 1) hi (by omega)
        rw [show i + (k + 1) + 1 - 1 = i + k + 1 by omega] at h2
        exact tr h1 h2
    refine List.pairwise_iff_getElem.2 fun i j hi hj hij => ?_
    have := key (j - i - 1) i (by omega)
    rw [show i + (j - i - 1) + 1 = j by omega] at this
    simpa [List.getD_eq_getElem?_getD, hi, hj] using this
  · intro h i hi h0
    have := List.pairwise_iff_getElem.1 h (i - 1) i (by omega) hi (by omega)
    simpa [List.getD_eq_getElem?_getD, hi, show i - 1 < l.length by omega] using this
theorem take_getD' {α : Type} {l : List α} {j : Nat} (h : j < l.length) (d : α) : l.take (j + 1) = l.take j ++ [l.getD j d] := by
  rw [List.take_add_one, List.getElem?_eq_getElem h]
  simp [List.getD_eq_getElem?_getD, h]
theorem ilt_len {α : Type} {l : List α} {i : Nat} (h : i < l.length) : P.ilt (i : Int) (P.len l) = true := ilt_iff.2 (by rw [len_eq]; omega)
theorem ilt_end {α : Type} (l : List α) : P.ilt (l.length : Int) (P.len l) = false := by rw [Bool.eq_false_iff, Ne, ilt_iff, len_eq]; omega
theorem inb_len {α : Type} {l : List α} {i : Nat} (h : i < l.length) : P.inb (i : Int) (P.len l) = true := inb_iff.2 (by rw [len_eq]; omega)
theorem not_true : P.not true = false := rfl
theorem not_false' : P.not false = true := rfl
theorem cond_dec {α : Type} (p : Prop) [Decidable p] (x y : α) : P.cond (decide p) x y = if p then x else y := by
  by_cases h : p
  · rw [decide_eq_true h, if_pos h]; rfl
  · rw [decide_eq_false h, if_neg h]; rfl
theorem cond_ndec {α : Type} (p : Prop) [Decidable p] (x y : α) : P.cond (P.not (decide p)) x y = if p then y else x := by
  by_cases h : p
  · rw [decide_eq_true h, if_pos h]; rfl
  · rw [decide_eq_false h, if_neg h]; rfl
theorem slt_dec (a b : ByteArray) : P.slt a b = decide (ltS a b) := by rw [Bool.eq_iff_iff, slt_iff, decide_eq_true_eq]
theorem seq_dec (a b : ByteArray) : P.seq a b = decide (a = b) := by rw [Bool.eq_iff_iff, seq_iff, decide_eq_true_eq]
theorem ilt_dec (a b : Int) : P.ilt a b = decide (a < b) := rfl
theorem ile_dec (a b : Int) : P.ile a b = decide (a ≤ b) := rfl
theorem eqA_dec (a b : At) : P.and (P.ieq a.1 b.1) (P.ieq a.2 b.2) = decide (a = b) := by rw [Bool.eq_iff_iff, eqA_iff, decide_eq_true_eq]
theorem loop_all {ρ σ : Type} (n : Nat) (p : Nat → Prop) [DecidablePred p] {f : Int → Option (Int ⊕ (Unit ⊕ ρ))} {A : Option σ} {B : ρ → Option σ} {r : ρ} (hn : n ≤ 1000000000)
    (hs : ∀ i : Nat, i < n → f (i : Int) = some (if p i then .inl ((i + 1 : Nat) : Int) else .inr (.inr r))) (he : f (n : Int) = some (.inr (.inl ()))) :
    P.bind (P.iter K f 0) (P.either (fun (_ : Unit) => A) B) = if ∀ i, i < n → p i then A else B r := by
  rw [iter_all (n := n) (e := .inl ()) (r := .inr r) p K hs he (by unfold K; omega), bind_some]
  by_cases q : ∀ i, i < n → p i
  · rw [if_pos q, if_pos q]; rfl
  · rw [if_neg q, if_neg q]; rfl
theorem loop_fold {τ ρ σ : Type} (n : Nat) (s : Nat → τ) {f : Int × τ → Option ((Int × τ) ⊕ (τ ⊕ ρ))} {A : τ → Option σ} {B : ρ → Option σ} (hn : n ≤ 1000000000)
    (hs : ∀ i : Nat, i < n → f ((i : Int), s i) = some (.inl (((i + 1 : Nat) : Int), s (i + 1)))) (he : f ((n : Int), s n) = some (.inr (.inl (s n)))) :
    P.bind (P.iter K f (0, s 0)) (P.either A B) = A (s n) := by
  have := iter_run (f := f) (fun i => ((i : Int), s i)) _ n 0 K (by unfold K; omega) (fun j hj => by simp only [Nat.zero_add]; exact hs j hj) (by simpa using he)
  rw [show ((0 : Nat) : Int) = 0 from rfl] at this
  rw [this, bind_some, either_inl]
def PlaceA (a : At) : Prop := (a.1 = 4 ∨ a.1 = 5) ∧ 0 ≤ a.2
instance (a : At) : Decidable (PlaceA a) := by unfold PlaceA; exact inferInstance
theorem place_right {a : At} (h : PlaceA a) : RightA a := by unfold PlaceA at h; unfold RightA; omega
abbrev RisesB (l : List Bv) : Prop := l.Pairwise fun a b => ltS a.1 b.1
abbrev RisesL (l : List Lc) : Prop := l.Pairwise fun a b => ltA a.1 b.1
def MayS (s : Sta) : Prop := (RisesB s.2.1 ∧ ∀ b, b ∈ s.2.1 → b.2 = norm b.2) ∧ (RisesL s.2.2 ∧ ∀ l, l ∈ s.2.2 → PlaceA l.1 ∧ MayO l.2) ∧ (s.1 = true → s.2.1 = [] ∧ s.2.2 = [])
instance (s : Sta) : Decidable (MayS s) := by unfold MayS; exact inferInstance
def FewT (s : Sta) : Prop := s.2.1.length ≤ 100000 ∧ (∀ b, b ∈ s.2.1 → b.2.length ≤ 100000) ∧ s.2.2.length ≤ 100000 ∧ ∀ l, l ∈ s.2.2 → FewS l.2
instance (s : Sta) : Decidable (FewT s) := by unfold FewT; exact inferInstance
theorem ref_place (k : Nat) (a : At) : ref08_Place k a = some (decide (PlaceA a)) := by
  unfold ref08_Place
  obtain ⟨x, y⟩ := a
  try dsimp only
  simp only [PlaceA, ieq_eq, ile_dec, cond_dec]
  by_cases h4 : x = 4
  · rw [if_pos h4]; simp [h4]
  · by_cases h5 : x = 5
    · rw [if_neg h4, if_pos h5]; simp [h5]
    · rw [if_neg h4, if_neg h5]; simp [h4, h5]
theorem norm_one {a : At} : [a] = norm [a] ↔ RightA a := by
  rw [canon_iff]
  exact ⟨fun h => h.2 a (by simp), fun h => ⟨List.pairwise_singleton _ _, fun z hz => by rw [List.mem_singleton] at hz; rw [hz]; exact h⟩⟩
end Go.PL
end
section
open Go Go.PG Go.PL
set_option linter.all false
namespace Go.PL
def StepB (l : List Bv) (i : Nat) : Prop := (l.getD i dB).2 = norm (l.getD i dB).2 ∧ (0 < i → ltS (l.getD (i - 1) dB).1 (l.getD i dB).1)
instance (l : List Bv) (i : Nat) : Decidable (StepB l i) := by unfold StepB; exact inferInstance
def StepL (l : List Lc) (i : Nat) : Prop := (PlaceA (l.getD i dL).1 ∧ MayO (l.getD i dL).2) ∧ (0 < i → ltA (l.getD (i - 1) dL).1 (l.getD i dL).1)
instance (l : List Lc) (i : Nat) : Decidable (StepL l i) := by unfold StepL; exact inferInstance
theorem stepsB_iff {l : List Bv} : (∀ i, i < l.length → StepB l i) ↔ RisesB l ∧ ∀ f, f ∈ l → f.2 = norm f.2 := by
  have e1 := pair_steps (R := fun a b : Bv => ltS a.1 b.1) (fun h1 h2 => ltS_trans h1 h2) l dB
  have e2 := forall_getD (l := l) dB (p := fun f : Bv => f.2 = norm f.2)
  exact ⟨fun h => ⟨e1.1 fun i hi => (h i hi).2, e2.1 fun i hi => (h i hi).1⟩, fun h i hi => ⟨e2.2 h.2 i hi, e1.2 h.1 i hi⟩⟩
theorem stepsL_iff {l : List Lc} : (∀ i, i < l.length → StepL l i) ↔ RisesL l ∧ ∀ f, f ∈ l → PlaceA f.1 ∧ MayO f.2 := by
  have e1 := pair_steps (R := fun a b : Lc => ltA a.1 b.1) (fun h1 h2 => ltA_trans h1 h2) l dL
  have e2 := forall_getD (l := l) dL (p := fun f : Lc => PlaceA f.1 ∧ MayO f.2)
  exact ⟨fun h => ⟨e1.1 fun i hi => (h i hi).2, e2.1 fun i hi => (h i hi).1⟩, fun h i hi => ⟨e2.2 h.2 i hi, e1.2 h.1 i hi⟩⟩
theorem may_tail (s : Sta) (A : Option Bool) (hA : A = some (decide (s.1 = true → s.2.1 = [] ∧ s.2.2 = []))) :
    (if ∀ i, i < s.2.1.length → StepB s.2.1 i then (if ∀ i, i < s.2.2.length → StepL s.2.2 i then A else some false) else some false) = some (decide (MayS s)) := by
  subst hA
  by_cases q1 : ∀ i, i < s.2.1.length → StepB s.2.1 i
  · by_cases q2 : ∀ i, i < s.2.2.length → StepL s.2.2 i
    · rw [if_pos q1, if_pos q2]
      congr 1
      rw [decide_eq_decide]
      exact ⟨fun h => ⟨stepsB_iff.1 q1, stepsL_iff.1 q2, h⟩, fun h => h.2.2⟩
    · rw [if_pos q1, if_neg q2, decide_eq_false fun h : MayS s => q2 (stepsL_iff.2 h.2.1)]
  · rw [if_neg q1, decide_eq_false fun h : MayS s => q1 (stepsB_iff.2 h.1)]
theorem ref_may8 (s : Sta) (h : FewT s) : ref08_May K s = some (decide (MayS s)) := by
  unfold ref08_May
  try dsimp only
  obtain ⟨h1, h2, h3, h4⟩ := h
  rw [loop_all s.2.1.length (StepB s.2.1) (r := false) (by omega) ?_ ?_]
  · rw [loop_all s.2.2.length (StepL s.2.2) (r := false) (by omega) ?_ ?_]
    · refine may_tail s _ ?_
      cases s.1
      · simp [P.not, P.cond]
      · rw [not_true, cond_false, ieq_eq, cond_dec, ieq_eq, len_eq, len_eq]
        by_cases q : s.2.1 = []
        · rw [if_pos (by simp [q])]; simp [q]
        · rw [if_neg (by simp [q])]; simp [q]
    · intro i hi
      try dsimp only
      have hm := getD_mem hi dL
      rw [ilt_len hi, cond_true, inb_len hi, cond_true, get_nat, ref_place, bind_some, cond_ndec, cond_true, ref_may7 _ (h4 _ hm), bind_some, cond_ndec, wrap_succ (by omega)]
      by_cases q1 : PlaceA (s.2.2.getD i dL).1
      · by_cases q2 : MayO (s.2.2.getD i dL).2
        · rw [if_pos q1, if_pos q2]
          by_cases h0 : 0 < i
          · rw [show P.ilt ((0 : Int)) (i : Int) = true from ilt_iff.2 (by omega), cond_true, wrap_pred h0 (by omega), inb_len (show i - 1 < s.2.2.length by omega), cond_true, get_nat, ref_less, bind_some, cond_true, cond_ndec]
            by_cases z : ltA (s.2.2.getD (i - 1) dL).1 (s.2.2.getD i dL).1
            · rw [if_pos z, if_pos (show StepL s.2.2 i from ⟨⟨q1, q2⟩, fun _ => z⟩)]
            · rw [if_neg z, if_neg (show ¬ StepL s.2.2 i from fun y => z (y.2 h0))]
          · rw [show P.ilt ((0 : Int)) (i : Int) = false from by rw [Bool.eq_false_iff, Ne, ilt_iff]; omega, cond_false, if_pos (show StepL s.2.2 i from ⟨⟨q1, q2⟩, fun z => absurd z h0⟩)]
        · rw [if_pos q1, if_neg q2, if_neg (show ¬ StepL s.2.2 i from fun z => q2 z.1.2)]
      · rw [if_neg q1, if_neg (show ¬ StepL s.2.2 i from fun z => q1 z.1.1)]
    · try dsimp only
      rw [ilt_end]; rfl
  · intro i hi
    try dsimp only
    have hm := getD_mem hi dB
    rw [ilt_len hi, cond_true, inb_len hi, cond_true, get_nat, ref_may (s.2.1.getD i dB).2 (by have := h2 _ hm; omega), bind_some, cond_ndec, wrap_succ (by omega)]
    by_cases q : (s.2.1.getD i dB).2 = norm (s.2.1.getD i dB).2
    · rw [if_pos q]
      by_cases h0 : 0 < i
      · rw [show P.ilt ((0 : Int)) (i : Int) = true from ilt_iff.2 (by omega), cond_true, wrap_pred h0 (by omega), inb_len (show i - 1 < s.2.1.length by omega), cond_true, cond_true, get_nat, slt_dec, cond_ndec]
        by_cases z : ltS (s.2.1.getD (i - 1) dB).1 (s.2.1.getD i dB).1
        · rw [if_pos z, if_pos (show StepB s.2.1 i from ⟨q, fun _ => z⟩)]
        · rw [if_neg z, if_neg (show ¬ StepB s.2.1 i from fun y => z (y.2 h0))]
      · rw [show P.ilt ((0 : Int)) (i : Int) = false from by rw [Bool.eq_false_iff, Ne, ilt_iff]; omega, cond_false, if_pos (show StepB s.2.1 i from ⟨q, fun z => absurd z h0⟩)]
    · rw [if_neg q, if_neg (show ¬ StepB s.2.1 i from fun z => q z.1)]
  · try dsimp only
    rw [ilt_end]; rfl
instance decSp : DecidableEq Sp := fun a b => inferInstance
instance decLc : DecidableEq Lc := fun a b => decidable_of_iff (a.1 = b.1 ∧ a.2 = b.2) ⟨fun h => Prod.ext h.1 h.2, fun h => by rw [h]; exact ⟨rfl, rfl⟩⟩
instance decSta : DecidableEq Sta := fun a b => decidable_of_iff (a.1 = b.1 ∧ a.2.1 = b.2.1 ∧ a.2.2 = b.2.2) ⟨fun h => Prod.ext h.1 (Prod.ext h.2.1 h.2.2), fun h => by rw [h]; exact ⟨rfl, rfl, rfl⟩⟩
end Go.PL
end

/- Lemmas for the claim. -/
import Derived.Test.YtoicfdfjjnfgaaaProg
import Derived.KernelRfl
import Derived.Test.YtoicfdfjjnfgaaaG4
import Derived.Lib.Strings
import Derived.Lib.Slices
import Derived.Lib.Walk
import Derived.Lib.Bytealg
import Derived.Test.YtoicfdfjjnfgaaaG1
import Derived.Laws.Strings
set_option linter.all false
section
open Go Go.PG Go.Proofs
set_option linter.all false
set_option maxRecDepth 1000000
set_option maxHeartbeats 4000000
abbrev T_api_Val : Ty := .st (.pair (.int .i64) (.int .i64))
abbrev T_api_Prop : Ty := .st (.pair .str T_api_Val)
abbrev T_api_Obj : Ty := .st (.pair (.slice T_api_Prop) T_api_Val)
abbrev T_api_Frame : Ty := .st (.pair (.slice T_api_Prop) (.pair (.slice (.int .i64)) (.slice (.slice (.int .i64)))))
abbrev T_api_Atom : Ty := .st (.pair (.int .i64) (.int .i64))
abbrev T_api_Bind : Ty := .st (.pair .str (.slice T_api_Atom))
abbrev T_api_Field : Ty := .st (.pair .str (.pair .bool (.slice T_api_Atom)))
abbrev T_api_Shape : Ty := .st (.pair (.slice T_api_Field) (.slice T_api_Atom))
abbrev T_api_Loc : Ty := .st (.pair T_api_Atom T_api_Shape)
abbrev T_api_State : Ty := .st (.pair .bool (.pair (.slice T_api_Bind) (.slice T_api_Loc)))
abbrev T_proteanlaw21_All : Ty := .st (.pair T_api_Frame (.pair (.slice T_api_Obj) T_api_State))
abbrev T_api_Found : Ty := .st (.pair (.slice T_api_Atom) (.pair .bool (.pair .bool .bool)))
abbrev T_proteanlaw21_Put : Ty := .st (.pair .str (.pair .str (.pair T_api_Val (.slice T_api_Atom))))
noncomputable def T : List (Nat × TyRow) := [(3, ⟨(.int .i64), 0, false, false⟩), (4, ⟨.bool, 0, false, false⟩), (9, ⟨.str, 0, false, false⟩), (20, ⟨.opq, 0, false, false⟩), (28, ⟨(.slice T_api_Obj), 40, false, false⟩), (30, ⟨T_api_Val, 0, true, false⟩), (37, ⟨(.slice (.int .i64)), 8, false, false⟩), (40, ⟨(.slice T_api_Prop), 32, false, false⟩), (41, ⟨(.slice (.slice (.int .i64))), 24, false, false⟩), (43, ⟨T_api_Frame, 0, false, false⟩), (44, ⟨(.slice T_api_Bind), 40, false, false⟩), (45, ⟨(.slice T_api_Loc), 64, false, false⟩), (47, ⟨T_api_State, 0, false, false⟩), (49, ⟨T_proteanlaw21_All, 0, false, false⟩), (51, ⟨T_api_Atom, 0, true, false⟩), (52, ⟨(.slice T_api_Field), 48, false, false⟩), (53, ⟨(.slice T_api_Atom), 16, false, false⟩), (55, ⟨T_api_Shape, 0, false, false⟩), (57, ⟨T_api_Loc, 0, false, false⟩), (70, ⟨T_api_Bind, 0, false, false⟩), (72, ⟨T_api_Found, 0, false, false⟩), (78, ⟨T_proteanlaw21_Put, 0, false, false⟩), (88, ⟨(.slice .str), 16, false, false⟩), (93, ⟨T_api_Prop, 0, true, false⟩), (95, ⟨T_api_Obj, 0, false, false⟩), (132, ⟨T_api_Field, 0, false, false⟩), (137, ⟨.opq, 0, false, false⟩), (138, ⟨.opq, 0, false, false⟩), (142, ⟨.opq, 0, false, false⟩), (146, ⟨.opq, 0, false, false⟩), (208, ⟨(.int .u64), 0, false, false⟩), (210, ⟨.opq, 0, false, false⟩), (212, ⟨.opq, 0, false, false⟩), (225, ⟨.opq, 0, false, false⟩)]
theorem mixedOk : Try.prog.follows .mixedOrders = true := by kernel_rfl
theorem tabOk : tysB Try.prog T = true := by kernel_rfl
abbrev GG : World → Prop := fun _ => True
theorem f142_at : Try.prog.funcs[142]? = some Try.f142 := by kernel_rfl
theorem f142_ok : (Try.f142.name != "runtime.NumGoroutine" && Try.f142.body.isSome) = true := by kernel_rfl
theorem f168_at : Try.prog.funcs[168]? = some Try.f168 := by kernel_rfl
theorem f168_ok : (Try.f168.name != "runtime.NumGoroutine" && Try.f168.body.isSome) = true := by kernel_rfl
theorem f86_at : Try.prog.funcs[86]? = some Try.f86 := by kernel_rfl
theorem f86_ok : (Try.f86.name != "runtime.NumGoroutine" && Try.f86.body.isSome) = true := by kernel_rfl
theorem f151_at : Try.prog.funcs[151]? = some Try.f151 := by kernel_rfl
theorem f151_ok : (Try.f151.name != "runtime.NumGoroutine" && Try.f151.body.isSome) = true := by kernel_rfl
theorem f152_at : Try.prog.funcs[152]? = some Try.f152 := by kernel_rfl
theorem f152_ok : (Try.f152.name != "runtime.NumGoroutine" && Try.f152.body.isSome) = true := by kernel_rfl
theorem f101_at : Try.prog.funcs[101]? = some Try.f101 := by kernel_rfl
theorem f101_ok : (Try.f101.name != "runtime.NumGoroutine" && Try.f101.body.isSome) = true := by kernel_rfl
theorem f148_at : Try.prog.funcs[148]? = some Try.f148 := by kernel_rfl
theorem f148_ok : (Try.f148.name != "runtime.NumGoroutine" && Try.f148.body.isSome) = true := by kernel_rfl
theorem f100_at : Try.prog.funcs[100]? = some Try.f100 := by kernel_rfl
theorem f100_ok : (Try.f100.name != "runtime.NumGoroutine" && Try.f100.body.isSome) = true := by kernel_rfl
theorem f145_at : Try.prog.funcs[145]? = some Try.f145 := by kernel_rfl
theorem f145_ok : (Try.f145.name != "runtime.NumGoroutine" && Try.f145.body.isSome) = true := by kernel_rfl
theorem f95_at : Try.prog.funcs[95]? = some Try.f95 := by kernel_rfl
theorem f95_ok : (Try.f95.name != "runtime.NumGoroutine" && Try.f95.body.isSome) = true := by kernel_rfl
theorem f39_at : Try.prog.funcs[39]? = some Try.f39 := by kernel_rfl
theorem f39_ok : (Try.f39.name != "runtime.NumGoroutine" && Try.f39.body.isSome) = true := by kernel_rfl
theorem f83_at : Try.prog.funcs[83]? = some Try.f83 := by kernel_rfl
theorem f83_ok : (Try.f83.name != "runtime.NumGoroutine" && Try.f83.body.isSome) = true := by kernel_rfl
theorem f84_at : Try.prog.funcs[84]? = some Try.f84 := by kernel_rfl
theorem f84_ok : (Try.f84.name != "runtime.NumGoroutine" && Try.f84.body.isSome) = true := by kernel_rfl
theorem f26_at : Try.prog.funcs[26]? = some Try.f26 := by kernel_rfl
theorem f26_ok : (Try.f26.name != "runtime.NumGoroutine" && Try.f26.body.isSome) = true := by kernel_rfl
theorem f30_at : Try.prog.funcs[30]? = some Try.f30 := by kernel_rfl
theorem f30_ok : (Try.f30.name != "runtime.NumGoroutine" && Try.f30.body.isSome) = true := by kernel_rfl
theorem f28_at : Try.prog.funcs[28]? = some Try.f28 := by kernel_rfl
theorem f28_ok : (Try.f28.name != "runtime.NumGoroutine" && Try.f28.body.isSome) = true := by kernel_rfl
theorem f96_at : Try.prog.funcs[96]? = some Try.f96 := by kernel_rfl
theorem f96_ok : (Try.f96.name != "runtime.NumGoroutine" && Try.f96.body.isSome) = true := by kernel_rfl
theorem f97_at : Try.prog.funcs[97]? = some Try.f97 := by kernel_rfl
theorem f97_ok : (Try.f97.name != "runtime.NumGoroutine" && Try.f97.body.isSome) = true := by kernel_rfl
theorem f98_at : Try.prog.funcs[98]? = some Try.f98 := by kernel_rfl
theorem f98_ok : (Try.f98.name != "runtime.NumGoroutine" && Try.f98.body.isSome) = true := by kernel_rfl
theorem f32_at : Try.prog.funcs[32]? = some Try.f32 := by kernel_rfl
theorem f32_ok : (Try.f32.name != "runtime.NumGoroutine" && Try.f32.body.isSome) = true := by kernel_rfl
theorem f77_at : Try.prog.funcs[77]? = some Try.f77 := by kernel_rfl
theorem f77_ok : (Try.f77.name != "runtime.NumGoroutine" && Try.f77.body.isSome) = true := by kernel_rfl
theorem f76_at : Try.prog.funcs[76]? = some Try.f76 := by kernel_rfl
theorem f76_ok : (Try.f76.name != "runtime.NumGoroutine" && Try.f76.body.isSome) = true := by kernel_rfl
theorem f34_at : Try.prog.funcs[34]? = some Try.f34 := by kernel_rfl
theorem f34_ok : (Try.f34.name != "runtime.NumGoroutine" && Try.f34.body.isSome) = true := by kernel_rfl
theorem f37_at : Try.prog.funcs[37]? = some Try.f37 := by kernel_rfl
theorem f37_ok : (Try.f37.name != "runtime.NumGoroutine" && Try.f37.body.isSome) = true := by kernel_rfl
theorem f50_at : Try.prog.funcs[50]? = some Try.f50 := by kernel_rfl
theorem f50_ok : (Try.f50.name != "runtime.NumGoroutine" && Try.f50.body.isSome) = true := by kernel_rfl
theorem f61_at : Try.prog.funcs[61]? = some Try.f61 := by kernel_rfl
theorem f61_ok : (Try.f61.name != "runtime.NumGoroutine" && Try.f61.body.isSome) = true := by kernel_rfl
theorem f62_at : Try.prog.funcs[62]? = some Try.f62 := by kernel_rfl
theorem f62_ok : (Try.f62.name != "runtime.NumGoroutine" && Try.f62.body.isSome) = true := by kernel_rfl
theorem f85_at : Try.prog.funcs[85]? = some Try.f85 := by kernel_rfl
theorem f85_ok : (Try.f85.name != "runtime.NumGoroutine" && Try.f85.body.isSome) = true := by kernel_rfl
theorem f27_at : Try.prog.funcs[27]? = some Try.f27 := by kernel_rfl
theorem f27_ok : (Try.f27.name != "runtime.NumGoroutine" && Try.f27.body.isSome) = true := by kernel_rfl
theorem f31_at : Try.prog.funcs[31]? = some Try.f31 := by kernel_rfl
theorem f31_ok : (Try.f31.name != "runtime.NumGoroutine" && Try.f31.body.isSome) = true := by kernel_rfl
theorem f91_at : Try.prog.funcs[91]? = some Try.f91 := by kernel_rfl
theorem f91_ok : (Try.f91.name != "runtime.NumGoroutine" && Try.f91.body.isSome) = true := by kernel_rfl
theorem f92_at : Try.prog.funcs[92]? = some Try.f92 := by kernel_rfl
theorem f92_ok : (Try.f92.name != "runtime.NumGoroutine" && Try.f92.body.isSome) = true := by kernel_rfl
theorem f29_at : Try.prog.funcs[29]? = some Try.f29 := by kernel_rfl
theorem f29_ok : (Try.f29.name != "runtime.NumGoroutine" && Try.f29.body.isSome) = true := by kernel_rfl
theorem f47_at : Try.prog.funcs[47]? = some Try.f47 := by kernel_rfl
theorem f47_ok : (Try.f47.name != "runtime.NumGoroutine" && Try.f47.body.isSome) = true := by kernel_rfl
theorem f49_at : Try.prog.funcs[49]? = some Try.f49 := by kernel_rfl
theorem f49_ok : (Try.f49.name != "runtime.NumGoroutine" && Try.f49.body.isSome) = true := by kernel_rfl
theorem f99_at : Try.prog.funcs[99]? = some Try.f99 := by kernel_rfl
theorem f99_ok : (Try.f99.name != "runtime.NumGoroutine" && Try.f99.body.isSome) = true := by kernel_rfl
theorem f33_at : Try.prog.funcs[33]? = some Try.f33 := by kernel_rfl
theorem f33_ok : (Try.f33.name != "runtime.NumGoroutine" && Try.f33.body.isSome) = true := by kernel_rfl
theorem f42_at : Try.prog.funcs[42]? = some Try.f42 := by kernel_rfl
theorem f42_ok : (Try.f42.name != "runtime.NumGoroutine" && Try.f42.body.isSome) = true := by kernel_rfl
theorem f24_at : Try.prog.funcs[24]? = some Try.f24 := by kernel_rfl
theorem f24_ok : (Try.f24.name != "runtime.NumGoroutine" && Try.f24.body.isSome) = true := by kernel_rfl
theorem f35_at : Try.prog.funcs[35]? = some Try.f35 := by kernel_rfl
theorem f35_ok : (Try.f35.name != "runtime.NumGoroutine" && Try.f35.body.isSome) = true := by kernel_rfl
theorem f103_at : Try.prog.funcs[103]? = some Try.f103 := by kernel_rfl
theorem f103_ok : (Try.f103.name != "runtime.NumGoroutine" && Try.f103.body.isSome) = true := by kernel_rfl
theorem f104_at : Try.prog.funcs[104]? = some Try.f104 := by kernel_rfl
theorem f104_ok : (Try.f104.name != "runtime.NumGoroutine" && Try.f104.body.isSome) = true := by kernel_rfl
theorem f36_at : Try.prog.funcs[36]? = some Try.f36 := by kernel_rfl
theorem f36_ok : (Try.f36.name != "runtime.NumGoroutine" && Try.f36.body.isSome) = true := by kernel_rfl
theorem f38_at : Try.prog.funcs[38]? = some Try.f38 := by kernel_rfl
theorem f38_ok : (Try.f38.name != "runtime.NumGoroutine" && Try.f38.body.isSome) = true := by kernel_rfl
theorem f7_at : Try.prog.funcs[7]? = some Try.f7 := by kernel_rfl
theorem f140_at : Try.prog.funcs[140]? = some Try.f140 := by kernel_rfl
theorem f140_ok : (Try.f140.name != "runtime.NumGoroutine" && Try.f140.body.isSome) = true := by kernel_rfl
theorem f141_at : Try.prog.funcs[141]? = some Try.f141 := by kernel_rfl
theorem f141_ok : (Try.f141.name != "runtime.NumGoroutine" && Try.f141.body.isSome) = true := by kernel_rfl
theorem f87_at : Try.prog.funcs[87]? = some Try.f87 := by kernel_rfl
theorem f87_ok : (Try.f87.name != "runtime.NumGoroutine" && Try.f87.body.isSome) = true := by kernel_rfl
theorem f201_at : Try.prog.funcs[201]? = some Try.f201 := by kernel_rfl
theorem f201_ok : (Try.f201.name != "runtime.NumGoroutine" && Try.f201.body.isSome) = true := by kernel_rfl
theorem f172_at : Try.prog.funcs[172]? = some Try.f172 := by kernel_rfl
theorem f172_ok : (Try.f172.name != "runtime.NumGoroutine" && Try.f172.body.isSome) = true := by kernel_rfl
theorem f144_at : Try.prog.funcs[144]? = some Try.f144 := by kernel_rfl
theorem f144_ok : (Try.f144.name != "runtime.NumGoroutine" && Try.f144.body.isSome) = true := by kernel_rfl
theorem f176_at : Try.prog.funcs[176]? = some Try.f176 := by kernel_rfl
theorem f176_ok : (Try.f176.name != "runtime.NumGoroutine" && Try.f176.body.isSome) = true := by kernel_rfl
theorem f165_at : Try.prog.funcs[165]? = some Try.f165 := by kernel_rfl
theorem f165_ok : (Try.f165.name != "runtime.NumGoroutine" && Try.f165.body.isSome) = true := by kernel_rfl
theorem f180_at : Try.prog.funcs[180]? = some Try.f180 := by kernel_rfl
theorem f180_ok : (Try.f180.name != "runtime.NumGoroutine" && Try.f180.body.isSome) = true := by kernel_rfl
theorem f166_at : Try.prog.funcs[166]? = some Try.f166 := by kernel_rfl
theorem f166_ok : (Try.f166.name != "runtime.NumGoroutine" && Try.f166.body.isSome) = true := by kernel_rfl
theorem f181_at : Try.prog.funcs[181]? = some Try.f181 := by kernel_rfl
theorem f181_ok : (Try.f181.name != "runtime.NumGoroutine" && Try.f181.body.isSome) = true := by kernel_rfl
theorem f147_at : Try.prog.funcs[147]? = some Try.f147 := by kernel_rfl
theorem f147_ok : (Try.f147.name != "runtime.NumGoroutine" && Try.f147.body.isSome) = true := by kernel_rfl
theorem f167_at : Try.prog.funcs[167]? = some Try.f167 := by kernel_rfl
theorem f167_ok : (Try.f167.name != "runtime.NumGoroutine" && Try.f167.body.isSome) = true := by kernel_rfl
theorem f89_at : Try.prog.funcs[89]? = some Try.f89 := by kernel_rfl
theorem f89_ok : (Try.f89.name != "runtime.NumGoroutine" && Try.f89.body.isSome) = true := by kernel_rfl
theorem f88_at : Try.prog.funcs[88]? = some Try.f88 := by kernel_rfl
theorem f88_ok : (Try.f88.name != "runtime.NumGoroutine" && Try.f88.body.isSome) = true := by kernel_rfl
theorem f90_at : Try.prog.funcs[90]? = some Try.f90 := by kernel_rfl
theorem f90_ok : (Try.f90.name != "runtime.NumGoroutine" && Try.f90.body.isSome) = true := by kernel_rfl
theorem f93_at : Try.prog.funcs[93]? = some Try.f93 := by kernel_rfl
theorem f93_ok : (Try.f93.name != "runtime.NumGoroutine" && Try.f93.body.isSome) = true := by kernel_rfl
theorem f94_at : Try.prog.funcs[94]? = some Try.f94 := by kernel_rfl
theorem f94_ok : (Try.f94.name != "runtime.NumGoroutine" && Try.f94.body.isSome) = true := by kernel_rfl
theorem f143_at : Try.prog.funcs[143]? = some Try.f143 := by kernel_rfl
theorem f143_ok : (Try.f143.name != "runtime.NumGoroutine" && Try.f143.body.isSome) = true := by kernel_rfl
theorem f146_at : Try.prog.funcs[146]? = some Try.f146 := by kernel_rfl
theorem f146_ok : (Try.f146.name != "runtime.NumGoroutine" && Try.f146.body.isSome) = true := by kernel_rfl
theorem f163_at : Try.prog.funcs[163]? = some Try.f163 := by kernel_rfl
theorem f163_ok : (Try.f163.name != "runtime.NumGoroutine" && Try.f163.body.isSome) = true := by kernel_rfl
theorem f164_at : Try.prog.funcs[164]? = some Try.f164 := by kernel_rfl
theorem f164_ok : (Try.f164.name != "runtime.NumGoroutine" && Try.f164.body.isSome) = true := by kernel_rfl
theorem f102_at : Try.prog.funcs[102]? = some Try.f102 := by kernel_rfl
theorem f102_ok : (Try.f102.name != "runtime.NumGoroutine" && Try.f102.body.isSome) = true := by kernel_rfl
theorem f150_at : Try.prog.funcs[150]? = some Try.f150 := by kernel_rfl
theorem f150_ok : (Try.f150.name != "runtime.NumGoroutine" && Try.f150.body.isSome) = true := by kernel_rfl
theorem f149_at : Try.prog.funcs[149]? = some Try.f149 := by kernel_rfl
theorem f149_ok : (Try.f149.name != "runtime.NumGoroutine" && Try.f149.body.isSome) = true := by kernel_rfl
noncomputable def codes : List (Nat × Func × List (Nat × Hint)) := [(86, Try.f86, []), (140, Try.f140, [(2, ⟨[.var 8 (.d (.int .i64))], [], (some (0, []))⟩)]), (141, Try.f141, []), (142, Try.f142, []), (87, Try.f87, []), (201, Try.f201, []), (172, Try.f172, [(5, ⟨[.var 5 (.d (.int .i64)), .var 6 (.d (.int .i64)), .cel 0 [] (.st (.pair (.int .i64) (.int .i64)))], [], (some (0, [.var 5 (.d (.int .i64)), .cel 0 [] (.st (.pair (.int .i64) (.int .i64)))]))⟩)]), (144, Try.f144, [(2, ⟨[.var 8 (.d (.int .i64))], [], (some (0, []))⟩)]), (176, Try.f176, [(4, ⟨[.var 3 (.d (.int .i64)), .cel 0 [] (.st (.pair (.int .i64) (.int .i64)))], [], (some (0, [.cel 0 [] (.st (.pair (.int .i64) (.int .i64)))]))⟩), (9, ⟨[.var 3 (.d (.int .i64)), .var 5 (.d (.int .i64)), .cel 0 [] (.st (.pair (.int .i64) (.int .i64)))], [], (some (2, [.var 3 (.d (.int .i64)), .cel 0 [] (.st (.pair (.int .i64) (.int .i64)))]))⟩)]), (168, Try.f168, [(3, ⟨[.var 13 (.d (.int .i64)), .box 3 [] (.s (.p (.o (.st (.pair .str (.pair .bool (.slice (.st (.pair (.int .i64) (.int .i64)))))))) (.d (.slice (.st (.pair (.int .i64) (.int .i64)))))))], [], (some (0, [.box 3 [] (.s (.p (.o (.st (.pair .str (.pair .bool (.slice (.st (.pair (.int .i64) (.int .i64)))))))) (.d (.slice (.st (.pair (.int .i64) (.int .i64)))))))]))⟩)]), (165, Try.f165, [(2, ⟨[.var 8 (.d (.int .i64))], [], (some (0, []))⟩)]), (180, Try.f180, [(2, ⟨[.var 8 (.d (.int .i64))], [], (some (0, []))⟩)]), (166, Try.f166, []), (181, Try.f181, []), (147, Try.f147, []), (167, Try.f167, []), (89, Try.f89, []), (88, Try.f88, []), (90, Try.f90, []), (93, Try.f93, []), (94, Try.f94, []), (143, Try.f143, [(2, ⟨[.var 8 (.d (.int .i64))], [], (some (0, []))⟩)]), (146, Try.f146, []), (163, Try.f163, [(3, ⟨[.var 9 (.d (.int .i64)), .var 10 (.d (.int .i64))], [], (some (0, [.var 9 (.d (.int .i64))]))⟩)]), (164, Try.f164, []), (102, Try.f102, []), (150, Try.f150, [(2, ⟨[.var 8 (.d (.int .i64))], [], (some (0, []))⟩)]), (149, Try.f149, [])]
theorem codesOk : CodesOk Try.prog codes := .cons f86_at f86_ok <| .cons f140_at f140_ok <| .cons f141_at f141_ok <| .cons f142_at f142_ok <| .cons f87_at f87_ok <| .cons f201_at f201_ok <| .cons f172_at f172_ok <| .cons f144_at f144_ok <| .cons f176_at f176_ok <| .cons f168_at f168_ok <| .cons f165_at f165_ok <| .cons f180_at f180_ok <| .cons f166_at f166_ok <| .cons f181_at f181_ok <| .cons f147_at f147_ok <| .cons f167_at f167_ok <| .cons f89_at f89_ok <| .cons f88_at f88_ok <| .cons f90_at f90_ok <| .cons f93_at f93_ok <| .cons f94_at f94_ok <| .cons f143_at f143_ok <| .cons f146_at f146_ok <| .cons f163_at f163_ok <| .cons f164_at f164_ok <| .cons f102_at f102_ok <| .cons f150_at f150_ok <| .cons f149_at f149_ok <| .nil
section
open Go.RowKit
end
theorem mapsOk : mapsB Try.prog [(146, (.int .i64), .bool)] = true := by kernel_rfl
theorem f105_at : Try.prog.funcs[105]? = some Try.f105 := by kernel_rfl
theorem f105_ok : (Try.f105.name != "runtime.NumGoroutine" && Try.f105.body.isSome) = true := by kernel_rfl
noncomputable def codesR : List (Nat × Func × List (Nat × Hint)) := [(86, Try.f86, []), (140, Try.f140, [(2, ⟨[.var 8 (.d (.int .i64))], [], (some (0, []))⟩)]), (141, Try.f141, []), (142, Try.f142, []), (87, Try.f87, []), (201, Try.f201, []), (172, Try.f172, [(5, ⟨[.var 5 (.d (.int .i64)), .var 6 (.d (.int .i64)), .cel 0 [] (.st (.pair (.int .i64) (.int .i64)))], [], (some (0, [.var 5 (.d (.int .i64)), .cel 0 [] (.st (.pair (.int .i64) (.int .i64)))]))⟩)]), (144, Try.f144, [(2, ⟨[.var 8 (.d (.int .i64))], [], (some (0, []))⟩)]), (176, Try.f176, [(4, ⟨[.var 3 (.d (.int .i64)), .cel 0 [] (.st (.pair (.int .i64) (.int .i64)))], [], (some (0, [.cel 0 [] (.st (.pair (.int .i64) (.int .i64)))]))⟩), (9, ⟨[.var 3 (.d (.int .i64)), .var 5 (.d (.int .i64)), .cel 0 [] (.st (.pair (.int .i64) (.int .i64)))], [], (some (2, [.var 3 (.d (.int .i64)), .cel 0 [] (.st (.pair (.int .i64) (.int .i64)))]))⟩)]), (168, Try.f168, [(3, ⟨[.var 13 (.d (.int .i64)), .box 3 [] (.s (.p (.o (.st (.pair .str (.pair .bool (.slice (.st (.pair (.int .i64) (.int .i64)))))))) (.d (.slice (.st (.pair (.int .i64) (.int .i64)))))))], [], (some (0, [.box 3 [] (.s (.p (.o (.st (.pair .str (.pair .bool (.slice (.st (.pair (.int .i64) (.int .i64)))))))) (.d (.slice (.st (.pair (.int .i64) (.int .i64)))))))]))⟩)]), (165, Try.f165, [(2, ⟨[.var 8 (.d (.int .i64))], [], (some (0, []))⟩)]), (180, Try.f180, [(2, ⟨[.var 8 (.d (.int .i64))], [], (some (0, []))⟩)]), (166, Try.f166, []), (181, Try.f181, []), (147, Try.f147, []), (167, Try.f167, []), (89, Try.f89, []), (88, Try.f88, []), (90, Try.f90, []), (93, Try.f93, []), (94, Try.f94, []), (143, Try.f143, [(2, ⟨[.var 8 (.d (.int .i64))], [], (some (0, []))⟩)]), (146, Try.f146, []), (163, Try.f163, [(3, ⟨[.var 9 (.d (.int .i64)), .var 10 (.d (.int .i64))], [], (some (0, [.var 9 (.d (.int .i64))]))⟩)]), (164, Try.f164, []), (102, Try.f102, []), (150, Try.f150, [(2, ⟨[.var 8 (.d (.int .i64))], [], (some (0, []))⟩)]), (149, Try.f149, []), (105, Try.f105, [(3, ⟨[.var 16 (.d (.int .i64)), .box 3 [] (.s (.p (.d (.slice T_api_Prop)) (.p (.o (.int .i64)) (.r (.int .i64)))))], [], (some (0, [.box 3 [] (.s (.p (.d (.slice T_api_Prop)) (.p (.o (.int .i64)) (.r (.int .i64)))))]))⟩)])]
theorem codesROk : CodesOk Try.prog codesR := .cons f86_at f86_ok <| .cons f140_at f140_ok <| .cons f141_at f141_ok <| .cons f142_at f142_ok <| .cons f87_at f87_ok <| .cons f201_at f201_ok <| .cons f172_at f172_ok <| .cons f144_at f144_ok <| .cons f176_at f176_ok <| .cons f168_at f168_ok <| .cons f165_at f165_ok <| .cons f180_at f180_ok <| .cons f166_at f166_ok <| .cons f181_at f181_ok <| .cons f147_at f147_ok <| .cons f167_at f167_ok <| .cons f89_at f89_ok <| .cons f88_at f88_ok <| .cons f90_at f90_ok <| .cons f93_at f93_ok <| .cons f94_at f94_ok <| .cons f143_at f143_ok <| .cons f146_at f146_ok <| .cons f163_at f163_ok <| .cons f164_at f164_ok <| .cons f102_at f102_ok <| .cons f150_at f150_ok <| .cons f149_at f149_ok <| .cons f105_at f105_ok <| .nil
noncomputable def codesM : List (Nat × Func × List (Nat × Hint)) := [(86, Try.f86, []), (140, Try.f140, [(2, ⟨[.var 8 (.d (.int .i64))], [], (some (0, []))⟩)]), (141, Try.f141, []), (142, Try.f142, []), (87, Try.f87, []), (201, Try.f201, []), (172, Try.f172, [(5, ⟨[.var 5 (.d (.int .i64)), .var 6 (.d (.int .i64)), .cel 0 [] (.st (.pair (.int .i64) (.int .i64)))], [], (some (0, [.var 5 (.d (.int .i64)), .cel 0 [] (.st (.pair (.int .i64) (.int .i64)))]))⟩)]), (144, Try.f144, [(2, ⟨[.var 8 (.d (.int .i64))], [], (some (0, []))⟩)]), (176, Try.f176, [(4, ⟨[.var 3 (.d (.int .i64)), .cel 0 [] (.st (.pair (.int .i64) (.int .i64)))], [], (some (0, [.cel 0 [] (.st (.pair (.int .i64) (.int .i64)))]))⟩), (9, ⟨[.var 3 (.d (.int .i64)), .var 5 (.d (.int .i64)), .cel 0 [] (.st (.pair (.int .i64) (.int .i64)))], [], (some (2, [.var 3 (.d (.int .i64)), .cel 0 [] (.st (.pair (.int .i64) (.int .i64)))]))⟩)]), (168, Try.f168, [(3, ⟨[.var 13 (.d (.int .i64)), .box 3 [] (.s (.p (.o (.st (.pair .str (.pair .bool (.slice (.st (.pair (.int .i64) (.int .i64)))))))) (.d (.slice (.st (.pair (.int .i64) (.int .i64)))))))], [], (some (0, [.box 3 [] (.s (.p (.o (.st (.pair .str (.pair .bool (.slice (.st (.pair (.int .i64) (.int .i64)))))))) (.d (.slice (.st (.pair (.int .i64) (.int .i64)))))))]))⟩)]), (165, Try.f165, [(2, ⟨[.var 8 (.d (.int .i64))], [], (some (0, []))⟩)]), (180, Try.f180, [(2, ⟨[.var 8 (.d (.int .i64))], [], (some (0, []))⟩)]), (166, Try.f166, []), (181, Try.f181, []), (147, Try.f147, []), (167, Try.f167, []), (89, Try.f89, []), (88, Try.f88, []), (90, Try.f90, []), (93, Try.f93, []), (94, Try.f94, []), (143, Try.f143, [(2, ⟨[.var 8 (.d (.int .i64))], [], (some (0, []))⟩)]), (146, Try.f146, []), (163, Try.f163, [(3, ⟨[.var 9 (.d (.int .i64)), .var 10 (.d (.int .i64))], [], (some (0, [.var 9 (.d (.int .i64))]))⟩)]), (164, Try.f164, []), (102, Try.f102, []), (150, Try.f150, [(2, ⟨[.var 8 (.d (.int .i64))], [], (some (0, []))⟩)]), (149, Try.f149, []), (100, Try.f100, [(3, ⟨[.var 3 (.d (.int .i64)), .var 11 (.d (.int .i64))], [], (some (0, [.var 3 (.d (.int .i64))]))⟩), (11, ⟨[.var 6 (.o (.int .i64)), .var 27 (.d (.int .i64))], [], (some (2, [.var 6 (.o (.int .i64))]))⟩)])]
theorem codesMOk : CodesOk Try.prog codesM := .cons f86_at f86_ok <| .cons f140_at f140_ok <| .cons f141_at f141_ok <| .cons f142_at f142_ok <| .cons f87_at f87_ok <| .cons f201_at f201_ok <| .cons f172_at f172_ok <| .cons f144_at f144_ok <| .cons f176_at f176_ok <| .cons f168_at f168_ok <| .cons f165_at f165_ok <| .cons f180_at f180_ok <| .cons f166_at f166_ok <| .cons f181_at f181_ok <| .cons f147_at f147_ok <| .cons f167_at f167_ok <| .cons f89_at f89_ok <| .cons f88_at f88_ok <| .cons f90_at f90_ok <| .cons f93_at f93_ok <| .cons f94_at f94_ok <| .cons f143_at f143_ok <| .cons f146_at f146_ok <| .cons f163_at f163_ok <| .cons f164_at f164_ok <| .cons f102_at f102_ok <| .cons f150_at f150_ok <| .cons f149_at f149_ok <| .cons f100_at f100_ok <| .nil
noncomputable abbrev EN (k : Nat) (sp : List (Nat × Go.PG.Spec)) : Go.PG.Env := { T := T, specs := sp, codes := codes, k := k, calm := [168, 0], maps := [(146, (.int .i64), .bool)] }
noncomputable def slCloneAtom : (k : Nat) → (Ty.D (.slice T_api_Atom)) → Option (Ty.D (.slice T_api_Atom)) := fun (k : Nat) (x : T_api_Atom.slice.D) => P.cond (P.ilt ((0 : Int)) (P.len x)) (P.cond (P.not true) (some []) (P.cond (P.room (P.add (P.len (P.nil (Int × Int))) (P.len x)) 16) (some (P.app [] x)) none)) (P.amb (some []) (P.cond (P.room (P.add (P.len (P.nil (Int × Int))) (P.len x)) 16) (some (P.app [] x)) none))
theorem slCloneAtom_eq (k : Nat) (x : (Ty.D (.slice T_api_Atom))) : evFn (EN k []) 6 Try.f142 [] (.slice T_api_Atom) (.slice T_api_Atom) x = slCloneAtom k x := by kernel_rfl
theorem slCloneAtom_spec (k : Nat) : SpecOk Try.prog GG 142 ⟨(.slice T_api_Atom), (.slice T_api_Atom), slCloneAtom k⟩ :=
  fn_spec (envOk (E := EN k []) tabOk (.nil) codesOk mixedOk (fun _ _ _ _ => trivial) (hmp := mapsOk)) f142_at (fun x => (slCloneAtom_eq k x).symm)
noncomputable def object_Copy : (k : Nat) → (Ty.D T_api_Shape) → Option (Ty.D T_api_Shape) := fun (k : Nat) (x : T_api_Shape.D) => P.bind (slCloneAtom k x.snd) fun (r : List (Int × Int)) => P.bind (P.iter k (fun (y : Int × List (ByteArray × Bool × List (Int × Int)) × List (Int × Int)) => P.cond (P.ilt y.fst (P.len x.fst)) (P.cond (P.inb y.fst (P.len x.fst)) (P.bind (slCloneAtom k (P.get x.fst y.fst ((ByteArray.mk #[]), false, [])).snd.snd) fun (r : List (Int × Int)) => P.cond (P.room (P.add (P.len y.snd.fst) (P.len [((P.get x.fst y.fst ((ByteArray.mk #[]), false, [])).fst, (P.get x.fst y.fst ((ByteArray.mk #[]), false, [])).snd.fst, r)])) 48) (some (Sum.inl (P.wrap IntKind.i64 (P.add y.fst ((1 : Int))), P.app y.snd.fst [((P.get x.fst y.fst ((ByteArray.mk #[]), false, [])).fst, (P.get x.fst y.fst ((ByteArray.mk #[]), false, [])).snd.fst, r)], y.snd.snd))) none) none) (some (Sum.inr (Sum.inl (y.snd.fst, y.snd.snd))))) ((0 : Int), [], r)) (P.either (fun (z : List (ByteArray × Bool × List (Int × Int)) × List (Int × Int)) => some (z.fst, z.snd)) fun (r : List (ByteArray × Bool × List (Int × Int)) × List (Int × Int)) => some r)
theorem object_Copy_eq (k : Nat) (x : (Ty.D T_api_Shape)) : evFn (EN k [(142, ⟨(.slice T_api_Atom), (.slice T_api_Atom), slCloneAtom k⟩)]) 6 Try.f168 [(3, ⟨[.var 13 (.d (.int .i64)), .box 3 [] (.s (.p (.o (.st (.pair .str (.pair .bool (.slice (.st (.pair (.int .i64) (.int .i64)))))))) (.d (.slice (.st (.pair (.int .i64) (.int .i64)))))))], [], (some (0, [.box 3 [] (.s (.p (.o (.st (.pair .str (.pair .bool (.slice (.st (.pair (.int .i64) (.int .i64)))))))) (.d (.slice (.st (.pair (.int .i64) (.int .i64)))))))]))⟩)] T_api_Shape T_api_Shape x = object_Copy k x := by kernel_rfl
theorem object_Copy_spec (k : Nat) : SpecOk Try.prog GG 168 ⟨T_api_Shape, T_api_Shape, object_Copy k⟩ :=
  fn_spec (envOk (E := EN k [(142, ⟨(.slice T_api_Atom), (.slice T_api_Atom), slCloneAtom k⟩)]) tabOk (.cons (slCloneAtom_spec k) f142_at f142_ok <| .nil) codesOk mixedOk (fun _ _ _ _ => trivial) (hmp := mapsOk)) f168_at (fun x => (object_Copy_eq k x).symm)
noncomputable def object_Get : (k : Nat) → (Ty.D (.pair T_api_Shape .str)) → Option (Ty.D (.pair T_api_Field .bool)) := fun (k : Nat) (x : (T_api_Shape.pair Ty.str).D) => P.bind (P.iter k (fun (y : Int) => P.cond (P.ilt y (P.len x.fst.fst)) (P.cond (P.inb y (P.len x.fst.fst)) (P.cond (P.seq (P.get x.fst.fst y ((ByteArray.mk #[]), false, [])).fst x.snd) (P.map (fun (r : (ByteArray × Bool × List (Int × Int)) × Bool) => Sum.inr (Sum.inr r)) (P.cond (P.ilt y ((0 : Int))) (some (((ByteArray.mk #[]), false, []), false)) (P.cond (P.inb y (P.len x.fst.fst)) (P.bind (slCloneAtom k (P.get x.fst.fst y ((ByteArray.mk #[]), false, [])).snd.snd) fun (r : List (Int × Int)) => some (((P.get x.fst.fst y ((ByteArray.mk #[]), false, [])).fst, (P.get x.fst.fst y ((ByteArray.mk #[]), false, [])).snd.fst, r), true)) none))) (some (Sum.inl (P.wrap IntKind.i64 (P.add y ((1 : Int))))))) none) (some (Sum.inr (Sum.inl PUnit.unit)))) ((0 : Int))) (P.either (fun (z : PUnit) => P.cond (P.ilt ((-1 : Int)) ((0 : Int))) (some (((ByteArray.mk #[]), false, []), false)) (P.cond (P.inb ((-1 : Int)) (P.len x.fst.fst)) (P.bind (slCloneAtom k (P.get x.fst.fst ((-1 : Int)) ((ByteArray.mk #[]), false, [])).snd.snd) fun (r : List (Int × Int)) => some (((P.get x.fst.fst ((-1 : Int)) ((ByteArray.mk #[]), false, [])).fst, (P.get x.fst.fst ((-1 : Int)) ((ByteArray.mk #[]), false, [])).snd.fst, r), true)) none)) fun (r : (ByteArray × Bool × List (Int × Int)) × Bool) => some r)
theorem object_Get_eq (k : Nat) (x : (Ty.D (.pair T_api_Shape .str))) : evFn (EN k [(142, ⟨(.slice T_api_Atom), (.slice T_api_Atom), slCloneAtom k⟩)]) 6 Try.f86 [] (.pair T_api_Shape .str) (.pair T_api_Field .bool) x = object_Get k x := by kernel_rfl
theorem object_Get_spec (k : Nat) : SpecOk Try.prog GG 86 ⟨(.pair T_api_Shape .str), (.pair T_api_Field .bool), object_Get k⟩ :=
  fn_spec (envOk (E := EN k [(142, ⟨(.slice T_api_Atom), (.slice T_api_Atom), slCloneAtom k⟩)]) tabOk (.cons (slCloneAtom_spec k) f142_at f142_ok <| .nil) codesOk mixedOk (fun _ _ _ _ => trivial) (hmp := mapsOk)) f86_at (fun x => (object_Get_eq k x).symm)
noncomputable def slices_Clone_api_Prop_api_Prop : (k : Nat) → (Ty.D (.slice T_api_Prop)) → Option (Ty.D (.slice T_api_Prop)) := fun (k : Nat) (x : T_api_Prop.slice.D) => P.cond (P.ilt ((0 : Int)) (P.len x)) (P.cond (P.not true) (some []) (P.cond (P.room (P.add (P.len (P.nil (ByteArray × Int × Int))) (P.len x)) 32) (some (P.app [] x)) none)) (P.amb (some []) (P.cond (P.room (P.add (P.len (P.nil (ByteArray × Int × Int))) (P.len x)) 32) (some (P.app [] x)) none))
theorem slices_Clone_api_Prop_api_Prop_eq (k : Nat) (x : (Ty.D (.slice T_api_Prop))) : evFn (EN k []) 6 Try.f151 [] (.slice T_api_Prop) (.slice T_api_Prop) x = slices_Clone_api_Prop_api_Prop k x := by kernel_rfl
theorem slices_Clone_api_Prop_api_Prop_spec (k : Nat) : SpecOk Try.prog GG 151 ⟨(.slice T_api_Prop), (.slice T_api_Prop), slices_Clone_api_Prop_api_Prop k⟩ :=
  fn_spec (envOk (E := EN k []) tabOk (.nil) codesOk mixedOk (fun _ _ _ _ => trivial) (hmp := mapsOk)) f151_at (fun x => (slices_Clone_api_Prop_api_Prop_eq k x).symm)
noncomputable def slices_Clone_int_int : (k : Nat) → (Ty.D (.slice (.int .i64))) → Option (Ty.D (.slice (.int .i64))) := fun (k : Nat) (x : (Ty.int IntKind.i64).slice.D) => P.cond (P.ilt ((0 : Int)) (P.len x)) (P.cond (P.not true) (some []) (P.cond (P.room (P.add (P.len (P.nil Int)) (P.len x)) 8) (some (P.app [] x)) none)) (P.amb (some []) (P.cond (P.room (P.add (P.len (P.nil Int)) (P.len x)) 8) (some (P.app [] x)) none))
theorem slices_Clone_int_int_eqO (k : Nat) (x : (Ty.D (.slice (.int .i64)))) : evFnO (EN k []) 6 Try.f152 [] (.slice (.int .i64)) (.int .i64) x = slices_Clone_int_int k x := by kernel_rfl
theorem slices_Clone_int_int_ospec (k : Nat) : OSpecOk Try.prog GG 152 ⟨(.slice (.int .i64)), (.int .i64), slices_Clone_int_int k⟩ :=
  fn_ospec (envOk (E := EN k []) tabOk (.nil) codesOk mixedOk (fun _ _ _ _ => trivial) (hmp := mapsOk)) f152_at (fun x => (slices_Clone_int_int_eqO k x).symm)
noncomputable def slices_Clones_int : (k : Nat) → (Ty.D (.slice (.slice (.int .i64)))) → Option (Ty.D (.slice (.slice (.int .i64)))) := fun (k : Nat) (x : (Ty.int IntKind.i64).slice.slice.D) => P.cond (P.ilt ((0 : Int)) (P.len x)) (P.cond (P.not true) (some []) (P.cond (P.room (P.add (P.len (P.nil (List Int))) (P.len x)) 24) (some (P.app [] x)) none)) (P.amb (some []) (P.cond (P.room (P.add (P.len (P.nil (List Int))) (P.len x)) 24) (some (P.app [] x)) none))
theorem slices_Clones_int_eqO (k : Nat) (x : (Ty.D (.slice (.slice (.int .i64))))) : evFnO (EN k []) 6 Try.f101 [] (.slice (.slice (.int .i64))) (.slice (.int .i64)) x = slices_Clones_int k x := by kernel_rfl
theorem slices_Clones_int_ospec (k : Nat) : OSpecOk Try.prog GG 101 ⟨(.slice (.slice (.int .i64))), (.slice (.int .i64)), slices_Clones_int k⟩ :=
  fn_ospec (envOk (E := EN k []) tabOk (.nil) codesOk mixedOk (fun _ _ _ _ => trivial) (hmp := mapsOk)) f101_at (fun x => (slices_Clones_int_eqO k x).symm)
noncomputable def state_Loc : (k : Nat) → (Ty.D (.pair T_api_State T_api_Atom)) → Option (Ty.D (.pair T_api_Shape .bool)) := fun (k : Nat) (x : (T_api_State.pair T_api_Atom).D) => P.bind (P.iter k (fun (y : Int) => P.cond (P.ilt y (P.len x.fst.snd.snd)) (P.cond (P.inb y (P.len x.fst.snd.snd)) (P.cond (P.and (P.ieq (P.get x.fst.snd.snd y (((0 : Int), (0 : Int)), [], [])).fst.fst x.snd.fst) (P.ieq (P.get x.fst.snd.snd y (((0 : Int), (0 : Int)), [], [])).fst.snd x.snd.snd)) (P.map (fun (r : (List (ByteArray × Bool × List (Int × Int)) × List (Int × Int)) × Bool) => Sum.inr (Sum.inr r)) (P.cond (P.ile ((0 : Int)) y) (P.cond (P.inb y (P.len x.fst.snd.snd)) (P.bind (object_Copy k (P.get x.fst.snd.snd y (((0 : Int), (0 : Int)), [], [])).snd) fun (r : List (ByteArray × Bool × List (Int × Int)) × List (Int × Int)) => some (r, true)) none) (some (([], []), false)))) (some (Sum.inl (P.wrap IntKind.i64 (P.add y ((1 : Int))))))) none) (some (Sum.inr (Sum.inl PUnit.unit)))) ((0 : Int))) (P.either (fun (z : PUnit) => P.cond (P.ile ((0 : Int)) ((-1 : Int))) (P.cond (P.inb ((-1 : Int)) (P.len x.fst.snd.snd)) (P.bind (object_Copy k (P.get x.fst.snd.snd ((-1 : Int)) (((0 : Int), (0 : Int)), [], [])).snd) fun (r : List (ByteArray × Bool × List (Int × Int)) × List (Int × Int)) => some (r, true)) none) (some (([], []), false))) fun (r : (List (ByteArray × Bool × List (Int × Int)) × List (Int × Int)) × Bool) => some r)
theorem state_Loc_eq (k : Nat) (x : (Ty.D (.pair T_api_State T_api_Atom))) : evFn (EN k [(142, ⟨(.slice T_api_Atom), (.slice T_api_Atom), slCloneAtom k⟩), (168, ⟨T_api_Shape, T_api_Shape, object_Copy k⟩)]) 6 Try.f148 [] (.pair T_api_State T_api_Atom) (.pair T_api_Shape .bool) x = state_Loc k x := by kernel_rfl
theorem state_Loc_spec (k : Nat) : SpecOk Try.prog GG 148 ⟨(.pair T_api_State T_api_Atom), (.pair T_api_Shape .bool), state_Loc k⟩ :=
  fn_spec (envOk (E := EN k [(142, ⟨(.slice T_api_Atom), (.slice T_api_Atom), slCloneAtom k⟩), (168, ⟨T_api_Shape, T_api_Shape, object_Copy k⟩)]) tabOk (.cons (slCloneAtom_spec k) f142_at f142_ok <| .cons (object_Copy_spec k) f168_at f168_ok <| .nil) codesOk mixedOk (fun _ _ _ _ => trivial) (hmp := mapsOk)) f148_at (fun x => (state_Loc_eq k x).symm)
noncomputable def conform_newest : (k : Nat) → (Ty.D (.pair T_api_Frame (.int .i64))) → Option (Ty.D (.int .i64)) := fun (k : Nat) (x : (T_api_Frame.pair (Ty.int IntKind.i64)).D) => P.cond (P.ilt x.snd ((0 : Int))) (some ((-1 : Int))) (P.cond (P.ile (P.len x.fst.snd.fst) x.snd) (some ((-1 : Int))) (P.cond (P.inb x.snd (P.len x.fst.snd.fst)) (some (P.get x.fst.snd.fst x.snd ((0 : Int)))) none))
theorem conform_newest_eq (k : Nat) (x : (Ty.D (.pair T_api_Frame (.int .i64)))) : evFn (EN k []) 6 Try.f145 [] (.pair T_api_Frame (.int .i64)) (.int .i64) x = conform_newest k x := by kernel_rfl
theorem conform_newest_spec (k : Nat) : SpecOk Try.prog GG 145 ⟨(.pair T_api_Frame (.int .i64)), (.int .i64), conform_newest k⟩ :=
  fn_spec (envOk (E := EN k []) tabOk (.nil) codesOk mixedOk (fun _ _ _ _ => trivial) (hmp := mapsOk)) f145_at (fun x => (conform_newest_eq k x).symm)
noncomputable def conform_of : (k : Nat) → (Ty.D (.pair T_api_Frame (.pair T_api_Val T_api_Atom))) → Option (Ty.D .bool) := fun (k : Nat) (x : (T_api_Frame.pair (T_api_Val.pair T_api_Atom)).D) => P.cond (P.ieq x.snd.snd.fst ((0 : Int))) (some (P.ieq x.snd.fst.fst ((0 : Int)))) (P.cond (P.ieq x.snd.snd.fst ((1 : Int))) (some (P.ieq x.snd.fst.fst ((1 : Int)))) (P.cond (P.ieq x.snd.snd.fst ((2 : Int))) (some (P.ieq x.snd.fst.fst ((2 : Int)))) (P.cond (P.ieq x.snd.snd.fst ((3 : Int))) (some (P.and (P.ieq x.snd.fst.fst ((3 : Int))) (P.ieq x.snd.fst.snd x.snd.snd.snd))) (P.cond (P.ieq x.snd.snd.fst ((4 : Int))) (P.cond (P.ieq x.snd.fst.fst ((4 : Int))) (P.bind (conform_newest k (x.fst, x.snd.snd.snd)) fun (r : Int) => P.cond (P.ile ((0 : Int)) r) (P.bind (conform_newest k (x.fst, x.snd.snd.snd)) fun (r : Int) => some (P.ieq r x.snd.fst.snd)) (some false)) (some false)) (P.cond (P.ieq x.snd.snd.fst ((5 : Int))) (P.cond (P.ieq x.snd.fst.fst ((4 : Int))) (P.cond (P.ile ((0 : Int)) x.snd.snd.snd) (P.cond (P.ilt x.snd.snd.snd (P.len x.fst.snd.snd)) (P.cond (P.inb x.snd.snd.snd (P.len x.fst.snd.snd)) (P.bind (P.iter k (fun (y : Int) => P.cond (P.ilt y (P.len (P.get x.fst.snd.snd x.snd.snd.snd []))) (P.cond (P.inb y (P.len (P.get x.fst.snd.snd x.snd.snd.snd []))) (P.cond (P.ieq x.snd.fst.snd (P.get (P.get x.fst.snd.snd x.snd.snd.snd []) y ((0 : Int)))) (some (Sum.inr (Sum.inr (P.ile ((0 : Int)) y)))) (some (Sum.inl (P.wrap IntKind.i64 (P.add y ((1 : Int))))))) none) (some (Sum.inr (Sum.inl PUnit.unit)))) ((0 : Int))) (P.either (fun (z : PUnit) => some (P.ile ((0 : Int)) ((-1 : Int)))) fun (r : Bool) => some r)) none) (some false)) (some false)) (some false)) (some (P.ieq x.snd.snd.fst ((6 : Int)))))))))
theorem conform_of_eq (k : Nat) (x : (Ty.D (.pair T_api_Frame (.pair T_api_Val T_api_Atom)))) : evFn (EN k [(145, ⟨(.pair T_api_Frame (.int .i64)), (.int .i64), conform_newest k⟩)]) 6 Try.f95 [] (.pair T_api_Frame (.pair T_api_Val T_api_Atom)) .bool x = conform_of k x := by kernel_rfl
theorem conform_of_spec (k : Nat) : SpecOk Try.prog GG 95 ⟨(.pair T_api_Frame (.pair T_api_Val T_api_Atom)), .bool, conform_of k⟩ :=
  fn_spec (envOk (E := EN k [(145, ⟨(.pair T_api_Frame (.int .i64)), (.int .i64), conform_newest k⟩)]) tabOk (.cons (conform_newest_spec k) f145_at f145_ok <| .nil) codesOk mixedOk (fun _ _ _ _ => trivial) (hmp := mapsOk)) f95_at (fun x => (conform_of_eq k x).symm)
noncomputable def ref08_Small : (k : Nat) → (Ty.D T_api_State) → Option (Ty.D .bool) := fun (k : Nat) (x : T_api_State.D) => P.cond (P.ilt ((40 : Int)) (P.len x.snd.fst)) (some false) (P.cond (P.ilt ((40 : Int)) (P.len x.snd.snd)) (some false) (P.bind (P.iter k (fun (y : Int) => P.cond (P.ilt y (P.len x.snd.fst)) (P.cond (P.inb y (P.len x.snd.fst)) (P.cond (P.ilt ((40 : Int)) (P.len (P.get x.snd.fst y ((ByteArray.mk #[]), [])).snd)) (some (Sum.inr (Sum.inr false))) (some (Sum.inl (P.wrap IntKind.i64 (P.add y ((1 : Int))))))) none) (some (Sum.inr (Sum.inl PUnit.unit)))) ((0 : Int))) (P.either (fun (z : PUnit) => P.bind (P.iter k (fun (y : Int) => P.cond (P.ilt y (P.len x.snd.snd)) (P.cond (P.inb y (P.len x.snd.snd)) (P.cond (P.ilt ((40 : Int)) (P.len (P.get x.snd.snd y (((0 : Int), (0 : Int)), [], [])).snd.fst)) (some (Sum.inr (Sum.inr false))) (P.cond (P.inb y (P.len x.snd.snd)) (P.cond (P.ilt ((40 : Int)) (P.len (P.get x.snd.snd y (((0 : Int), (0 : Int)), [], [])).snd.snd)) (some (Sum.inr (Sum.inr false))) (P.bind (P.iter k (fun (y_1 : Int) => P.cond (P.inb y (P.len x.snd.snd)) (P.cond (P.ilt y_1 (P.len (P.get x.snd.snd y (((0 : Int), (0 : Int)), [], [])).snd.fst)) (P.cond (P.inb y (P.len x.snd.snd)) (P.cond (P.inb y_1 (P.len (P.get x.snd.snd y (((0 : Int), (0 : Int)), [], [])).snd.fst)) (P.cond (P.ilt ((40 : Int)) (P.len (P.get (P.get x.snd.snd y (((0 : Int), (0 : Int)), [], [])).snd.fst y_1 ((ByteArray.mk #[]), false, [])).snd.snd)) (some (Sum.inr (Sum.inr (Sum.inr (Sum.inr false))))) (some (Sum.inl (P.wrap IntKind.i64 (P.add y_1 ((1 : Int))))))) none) none) (some (Sum.inr (Sum.inl PUnit.unit)))) none) ((0 : Int))) (P.either (fun (z : PUnit) => some (Sum.inl (P.wrap IntKind.i64 (P.add y ((1 : Int)))))) fun (r : Int ⊕ PUnit ⊕ Bool) => some r))) none)) none) (some (Sum.inr (Sum.inl PUnit.unit)))) ((0 : Int))) (P.either (fun (z : PUnit) => some true) fun (r : Bool) => some r)) fun (r : Bool) => some r)))
theorem ref08_Small_eq (k : Nat) (x : (Ty.D T_api_State)) : evFn (EN k []) 6 Try.f39 [(4, ⟨[.var 3 (.d (.int .i64))], [], (some (0, []))⟩), (9, ⟨[.var 4 (.d (.int .i64))], [], (some (2, []))⟩), (14, ⟨[.var 5 (.d (.int .i64))], [], (some (4, []))⟩)] T_api_State .bool x = ref08_Small k x := by kernel_rfl
theorem ref08_Small_spec (k : Nat) : SpecOk Try.prog GG 39 ⟨T_api_State, .bool, ref08_Small k⟩ :=
  fn_spec (envOk (E := EN k []) tabOk (.nil) codesOk mixedOk (fun _ _ _ _ => trivial) (hmp := mapsOk)) f39_at (fun x => (ref08_Small_eq k x).symm)
noncomputable def ref21_Small : (k : Nat) → (Ty.D T_api_Frame) → Option (Ty.D .bool) := fun (k : Nat) (x : T_api_Frame.D) => P.bind (P.iter k (fun (y : Int) => P.cond (P.ilt y (P.len x.snd.snd)) (P.cond (P.inb y (P.len x.snd.snd)) (P.cond (P.ilt ((30 : Int)) (P.len (P.get x.snd.snd y []))) (some (Sum.inr (Sum.inr false))) (some (Sum.inl (P.wrap IntKind.i64 (P.add y ((1 : Int))))))) none) (some (Sum.inr (Sum.inl PUnit.unit)))) ((0 : Int))) (P.either (fun (z : PUnit) => P.cond (P.ile (P.len x.fst) ((40 : Int))) (P.cond (P.ile (P.len x.snd.fst) ((40 : Int))) (some (P.ile (P.len x.snd.snd) ((40 : Int)))) (some false)) (some false)) fun (r : Bool) => some r)
theorem ref21_Small_eq (k : Nat) (x : (Ty.D T_api_Frame)) : evFn (EN k []) 6 Try.f83 [(2, ⟨[.var 3 (.d (.int .i64))], [], (some (0, []))⟩)] T_api_Frame .bool x = ref21_Small k x := by kernel_rfl
theorem ref21_Small_spec (k : Nat) : SpecOk Try.prog GG 83 ⟨T_api_Frame, .bool, ref21_Small k⟩ :=
  fn_spec (envOk (E := EN k []) tabOk (.nil) codesOk mixedOk (fun _ _ _ _ => trivial) (hmp := mapsOk)) f83_at (fun x => (ref21_Small_eq k x).symm)
noncomputable def ref19_Small : (k : Nat) → (Ty.D (.slice T_api_Obj)) → Option (Ty.D .bool) := fun (k : Nat) (x : T_api_Obj.slice.D) => P.bind (P.iter k (fun (y : Int) => P.cond (P.ilt y (P.len x)) (P.cond (P.inb y (P.len x)) (P.cond (P.ilt ((60 : Int)) (P.len (P.get x y ([], (0 : Int), (0 : Int))).fst)) (some (Sum.inr (Sum.inr false))) (some (Sum.inl (P.wrap IntKind.i64 (P.add y ((1 : Int))))))) none) (some (Sum.inr (Sum.inl PUnit.unit)))) ((0 : Int))) (P.either (fun (z : PUnit) => some (P.ile (P.len x) ((100 : Int)))) fun (r : Bool) => some r)
theorem ref19_Small_eq (k : Nat) (x : (Ty.D (.slice T_api_Obj))) : evFn (EN k []) 6 Try.f84 [(2, ⟨[.var 3 (.d (.int .i64))], [], (some (0, []))⟩)] (.slice T_api_Obj) .bool x = ref19_Small k x := by kernel_rfl
theorem ref19_Small_spec (k : Nat) : SpecOk Try.prog GG 84 ⟨(.slice T_api_Obj), .bool, ref19_Small k⟩ :=
  fn_spec (envOk (E := EN k []) tabOk (.nil) codesOk mixedOk (fun _ _ _ _ => trivial) (hmp := mapsOk)) f84_at (fun x => (ref19_Small_eq k x).symm)
noncomputable def law21_small : (k : Nat) → (Ty.D T_proteanlaw21_All) → Option (Ty.D .bool) := fun (k : Nat) (x : T_proteanlaw21_All.D) => P.bind (ref21_Small k x.fst) fun (r : Bool) => P.cond r (P.bind (ref19_Small k x.snd.fst) fun (r : Bool) => P.cond r (P.bind (ref08_Small k x.snd.snd) fun (r : Bool) => some r) (some false)) (some false)
theorem law21_small_eq (k : Nat) (x : (Ty.D T_proteanlaw21_All)) : evFn (EN k [(39, ⟨T_api_State, .bool, ref08_Small k⟩), (83, ⟨T_api_Frame, .bool, ref21_Small k⟩), (84, ⟨(.slice T_api_Obj), .bool, ref19_Small k⟩)]) 6 Try.f26 [] T_proteanlaw21_All .bool x = law21_small k x := by kernel_rfl
theorem law21_small_spec (k : Nat) : SpecOk Try.prog GG 26 ⟨T_proteanlaw21_All, .bool, law21_small k⟩ :=
  fn_spec (envOk (E := EN k [(39, ⟨T_api_State, .bool, ref08_Small k⟩), (83, ⟨T_api_Frame, .bool, ref21_Small k⟩), (84, ⟨(.slice T_api_Obj), .bool, ref19_Small k⟩)]) tabOk (.cons (ref08_Small_spec k) f39_at f39_ok <| .cons (ref21_Small_spec k) f83_at f83_ok <| .cons (ref19_Small_spec k) f84_at f84_ok <| .nil) codesOk mixedOk (fun _ _ _ _ => trivial) (hmp := mapsOk)) f26_at (fun x => (law21_small_eq k x).symm)
noncomputable def conform_Value : (k : Nat) → (Ty.D (.pair T_api_Frame (.pair T_api_Val (.slice T_api_Atom)))) → Option (Ty.D .bool) := fun (k : Nat) (x : (T_api_Frame.pair (T_api_Val.pair T_api_Atom.slice)).D) => P.bind (P.iter k (fun (y : Int) => P.cond (P.ilt y (P.len x.snd.snd)) (P.cond (P.inb y (P.len x.snd.snd)) (P.bind (conform_of k (x.fst, x.snd.fst, P.get x.snd.snd y ((0 : Int), (0 : Int)))) fun (r : Bool) => P.cond r (some (Sum.inr (Sum.inr (P.ile ((0 : Int)) y)))) (some (Sum.inl (P.wrap IntKind.i64 (P.add y ((1 : Int))))))) none) (some (Sum.inr (Sum.inl PUnit.unit)))) ((0 : Int))) (P.either (fun (z : PUnit) => some (P.ile ((0 : Int)) ((-1 : Int)))) fun (r : Bool) => some r)
theorem conform_Value_eq (k : Nat) (x : (Ty.D (.pair T_api_Frame (.pair T_api_Val (.slice T_api_Atom))))) : evFn (EN k [(95, ⟨(.pair T_api_Frame (.pair T_api_Val T_api_Atom)), .bool, conform_of k⟩)]) 6 Try.f30 [] (.pair T_api_Frame (.pair T_api_Val (.slice T_api_Atom))) .bool x = conform_Value k x := by kernel_rfl
theorem conform_Value_spec (k : Nat) : SpecOk Try.prog GG 30 ⟨(.pair T_api_Frame (.pair T_api_Val (.slice T_api_Atom))), .bool, conform_Value k⟩ :=
  fn_spec (envOk (E := EN k [(95, ⟨(.pair T_api_Frame (.pair T_api_Val T_api_Atom)), .bool, conform_of k⟩)]) tabOk (.cons (conform_of_spec k) f95_at f95_ok <| .nil) codesOk mixedOk (fun _ _ _ _ => trivial) (hmp := mapsOk)) f30_at (fun x => (conform_Value_eq k x).symm)
noncomputable def conform_Object : (k : Nat) → (Ty.D (.pair T_api_Frame (.pair (.slice T_api_Obj) (.pair (.int .i64) T_api_Shape)))) → Option (Ty.D .bool) := fun (k : Nat) (x : (T_api_Frame.pair (T_api_Obj.slice.pair ((Ty.int IntKind.i64).pair T_api_Shape))).D) => P.cond (P.ilt x.snd.snd.fst ((0 : Int))) (some false) (P.cond (P.ile (P.len x.snd.fst) x.snd.snd.fst) (some false) (P.cond (P.inb x.snd.snd.fst (P.len x.snd.fst)) (P.bind (conform_Value k (x.fst, (P.get x.snd.fst x.snd.snd.fst ([], (0 : Int), (0 : Int))).snd, x.snd.snd.snd.snd)) fun (r : Bool) => P.cond (P.not r) (some false) (P.cond (P.inb x.snd.snd.fst (P.len x.snd.fst)) (P.bind (P.iter k (fun (y : Int) => P.cond (P.ilt y (P.len (P.get x.snd.fst x.snd.snd.fst ([], (0 : Int), (0 : Int))).fst)) (P.cond (P.inb y (P.len (P.get x.snd.fst x.snd.snd.fst ([], (0 : Int), (0 : Int))).fst)) (P.bind (object_Get k (x.snd.snd.snd, (P.get (P.get x.snd.fst x.snd.snd.fst ([], (0 : Int), (0 : Int))).fst y ((ByteArray.mk #[]), (0 : Int), (0 : Int))).fst)) fun (r : (ByteArray × Bool × List (Int × Int)) × Bool) => P.cond (P.not r.snd) (some (Sum.inr (Sum.inr false))) (P.bind (conform_Value k (x.fst, (P.get (P.get x.snd.fst x.snd.snd.fst ([], (0 : Int), (0 : Int))).fst y ((ByteArray.mk #[]), (0 : Int), (0 : Int))).snd, r.fst.snd.snd)) fun (r : Bool) => P.cond (P.not r) (some (Sum.inr (Sum.inr false))) (some (Sum.inl (P.wrap IntKind.i64 (P.add y ((1 : Int)))))))) none) (some (Sum.inr (Sum.inl PUnit.unit)))) ((0 : Int))) (P.either (fun (z : PUnit) => P.bind (P.iter k (fun (y : Int) => P.cond (P.ilt y (P.len x.snd.snd.snd.fst)) (P.cond (P.inb y (P.len x.snd.snd.snd.fst)) (P.cond (P.get x.snd.snd.snd.fst y ((ByteArray.mk #[]), false, [])).snd.fst (P.cond (P.inb x.snd.snd.fst (P.len x.snd.fst)) (P.bind (P.iter k (fun (y_1 : Int) => P.cond (P.ilt y_1 (P.len (P.get x.snd.fst x.snd.snd.fst ([], (0 : Int), (0 : Int))).fst)) (P.cond (P.inb y_1 (P.len (P.get x.snd.fst x.snd.snd.fst ([], (0 : Int), (0 : Int))).fst)) (P.cond (P.seq (P.get (P.get x.snd.fst x.snd.snd.fst ([], (0 : Int), (0 : Int))).fst y_1 ((ByteArray.mk #[]), (0 : Int), (0 : Int))).fst (P.get x.snd.snd.snd.fst y ((ByteArray.mk #[]), false, [])).fst) (P.map (fun (r : Int ⊕ PUnit ⊕ Bool) => Sum.inr (Sum.inr r)) (P.cond (P.not (P.ile ((0 : Int)) y_1)) (some (Sum.inr (Sum.inr (P.not (P.ile ((0 : Int)) y))))) (some (Sum.inl (P.wrap IntKind.i64 (P.add y ((1 : Int)))))))) (some (Sum.inl (P.wrap IntKind.i64 (P.add y_1 ((1 : Int))))))) none) (some (Sum.inr (Sum.inl PUnit.unit)))) ((0 : Int))) (P.either (fun (z : PUnit) => P.cond (P.not (P.ile ((0 : Int)) ((-1 : Int)))) (some (Sum.inr (Sum.inr (P.not (P.ile ((0 : Int)) y))))) (some (Sum.inl (P.wrap IntKind.i64 (P.add y ((1 : Int))))))) fun (r : Int ⊕ PUnit ⊕ Bool) => some r)) none) (some (Sum.inl (P.wrap IntKind.i64 (P.add y ((1 : Int))))))) none) (some (Sum.inr (Sum.inl PUnit.unit)))) ((0 : Int))) (P.either (fun (z : PUnit) => some (P.not (P.ile ((0 : Int)) ((-1 : Int))))) fun (r : Bool) => some r)) fun (r : Bool) => some r)) none)) none))
theorem conform_Object_eq (k : Nat) (x : (Ty.D (.pair T_api_Frame (.pair (.slice T_api_Obj) (.pair (.int .i64) T_api_Shape))))) : evFn (EN k [(30, ⟨(.pair T_api_Frame (.pair T_api_Val (.slice T_api_Atom))), .bool, conform_Value k⟩), (86, ⟨(.pair T_api_Shape .str), (.pair T_api_Field .bool), object_Get k⟩), (142, ⟨(.slice T_api_Atom), (.slice T_api_Atom), slCloneAtom k⟩)]) 6 Try.f28 [(4, ⟨[.var 39 (.d (.int .i64))], [], (some (0, []))⟩)] (.pair T_api_Frame (.pair (.slice T_api_Obj) (.pair (.int .i64) T_api_Shape))) .bool x = conform_Object k x := by kernel_rfl
theorem conform_Object_spec (k : Nat) : SpecOk Try.prog GG 28 ⟨(.pair T_api_Frame (.pair (.slice T_api_Obj) (.pair (.int .i64) T_api_Shape))), .bool, conform_Object k⟩ :=
  fn_spec (envOk (E := EN k [(30, ⟨(.pair T_api_Frame (.pair T_api_Val (.slice T_api_Atom))), .bool, conform_Value k⟩), (86, ⟨(.pair T_api_Shape .str), (.pair T_api_Field .bool), object_Get k⟩), (142, ⟨(.slice T_api_Atom), (.slice T_api_Atom), slCloneAtom k⟩)]) tabOk (.cons (conform_Value_spec k) f30_at f30_ok <| .cons (object_Get_spec k) f86_at f86_ok <| .cons (slCloneAtom_spec k) f142_at f142_ok <| .nil) codesOk mixedOk (fun _ _ _ _ => trivial) (hmp := mapsOk)) f28_at (fun x => (conform_Object_eq k x).symm)
noncomputable def conform_variable : (k : Nat) → (Ty.D (.pair T_api_Frame .str)) → Option (Ty.D T_api_Val) := fun (k : Nat) (x : (T_api_Frame.pair Ty.str).D) => P.bind (P.iter k (fun (y : Int) => P.cond (P.ilt y (P.len x.fst.fst)) (P.cond (P.inb y (P.len x.fst.fst)) (P.cond (P.seq (P.get x.fst.fst y ((ByteArray.mk #[]), (0 : Int), (0 : Int))).fst x.snd) (P.map (fun (r : Int × Int) => Sum.inr (Sum.inr r)) (P.cond (P.ilt y ((0 : Int))) (some ((0 : Int), (0 : Int))) (P.cond (P.inb y (P.len x.fst.fst)) (some (P.get x.fst.fst y ((ByteArray.mk #[]), (0 : Int), (0 : Int))).snd) none))) (some (Sum.inl (P.wrap IntKind.i64 (P.add y ((1 : Int))))))) none) (some (Sum.inr (Sum.inl PUnit.unit)))) ((0 : Int))) (P.either (fun (z : PUnit) => P.cond (P.ilt ((-1 : Int)) ((0 : Int))) (some ((0 : Int), (0 : Int))) (P.cond (P.inb ((-1 : Int)) (P.len x.fst.fst)) (some (P.get x.fst.fst ((-1 : Int)) ((ByteArray.mk #[]), (0 : Int), (0 : Int))).snd) none)) fun (r : Int × Int) => some r)
theorem conform_variable_eq (k : Nat) (x : (Ty.D (.pair T_api_Frame .str))) : evFn (EN k []) 6 Try.f96 [] (.pair T_api_Frame .str) T_api_Val x = conform_variable k x := by kernel_rfl
theorem conform_variable_spec (k : Nat) : SpecOk Try.prog GG 96 ⟨(.pair T_api_Frame .str), T_api_Val, conform_variable k⟩ :=
  fn_spec (envOk (E := EN k []) tabOk (.nil) codesOk mixedOk (fun _ _ _ _ => trivial) (hmp := mapsOk)) f96_at (fun x => (conform_variable_eq k x).symm)
noncomputable def state_Var : (k : Nat) → (Ty.D (.pair T_api_State .str)) → Option (Ty.D (.slice T_api_Atom)) := fun (k : Nat) (x : (T_api_State.pair Ty.str).D) => P.bind (P.iter k (fun (y : Int) => P.cond (P.ilt y (P.len x.fst.snd.fst)) (P.cond (P.inb y (P.len x.fst.snd.fst)) (P.cond (P.seq (P.get x.fst.snd.fst y ((ByteArray.mk #[]), [])).fst x.snd) (P.map (fun (r : List (Int × Int)) => Sum.inr (Sum.inr r)) (P.cond (P.ile ((0 : Int)) y) (P.cond (P.inb y (P.len x.fst.snd.fst)) (P.bind (slCloneAtom k (P.get x.fst.snd.fst y ((ByteArray.mk #[]), [])).snd) fun (r : List (Int × Int)) => some r) none) (some [((0 : Int), (0 : Int))]))) (some (Sum.inl (P.wrap IntKind.i64 (P.add y ((1 : Int))))))) none) (some (Sum.inr (Sum.inl PUnit.unit)))) ((0 : Int))) (P.either (fun (z : PUnit) => P.cond (P.ile ((0 : Int)) ((-1 : Int))) (P.cond (P.inb ((-1 : Int)) (P.len x.fst.snd.fst)) (P.bind (slCloneAtom k (P.get x.fst.snd.fst ((-1 : Int)) ((ByteArray.mk #[]), [])).snd) fun (r : List (Int × Int)) => some r) none) (some [((0 : Int), (0 : Int))])) fun (r : List (Int × Int)) => some r)
theorem state_Var_eq (k : Nat) (x : (Ty.D (.pair T_api_State .str))) : evFn (EN k [(142, ⟨(.slice T_api_Atom), (.slice T_api_Atom), slCloneAtom k⟩)]) 6 Try.f97 [] (.pair T_api_State .str) (.slice T_api_Atom) x = state_Var k x := by kernel_rfl
theorem state_Var_spec (k : Nat) : SpecOk Try.prog GG 97 ⟨(.pair T_api_State .str), (.slice T_api_Atom), state_Var k⟩ :=
  fn_spec (envOk (E := EN k [(142, ⟨(.slice T_api_Atom), (.slice T_api_Atom), slCloneAtom k⟩)]) tabOk (.cons (slCloneAtom_spec k) f142_at f142_ok <| .nil) codesOk mixedOk (fun _ _ _ _ => trivial) (hmp := mapsOk)) f97_at (fun x => (state_Var_eq k x).symm)
noncomputable def conform_loc : (k : Nat) → (Ty.D (.pair T_api_Frame (.pair (.slice T_api_Obj) (.pair (.int .i64) (.pair T_api_State T_api_Atom))))) → Option (Ty.D .bool) := fun (k : Nat) (x : (T_api_Frame.pair (T_api_Obj.slice.pair ((Ty.int IntKind.i64).pair (T_api_State.pair T_api_Atom)))).D) => P.bind (state_Loc k (x.snd.snd.snd.fst, x.snd.snd.snd.snd)) fun (r : (List (ByteArray × Bool × List (Int × Int)) × List (Int × Int)) × Bool) => P.cond r.snd (P.bind (conform_Object k (x.fst, x.snd.fst, x.snd.snd.fst, r.fst)) fun (r : Bool) => some r) (some false)
theorem conform_loc_eq (k : Nat) (x : (Ty.D (.pair T_api_Frame (.pair (.slice T_api_Obj) (.pair (.int .i64) (.pair T_api_State T_api_Atom)))))) : evFn (EN k [(28, ⟨(.pair T_api_Frame (.pair (.slice T_api_Obj) (.pair (.int .i64) T_api_Shape))), .bool, conform_Object k⟩), (148, ⟨(.pair T_api_State T_api_Atom), (.pair T_api_Shape .bool), state_Loc k⟩)]) 6 Try.f98 [] (.pair T_api_Frame (.pair (.slice T_api_Obj) (.pair (.int .i64) (.pair T_api_State T_api_Atom)))) .bool x = conform_loc k x := by kernel_rfl
theorem conform_loc_spec (k : Nat) : SpecOk Try.prog GG 98 ⟨(.pair T_api_Frame (.pair (.slice T_api_Obj) (.pair (.int .i64) (.pair T_api_State T_api_Atom)))), .bool, conform_loc k⟩ :=
  fn_spec (envOk (E := EN k [(28, ⟨(.pair T_api_Frame (.pair (.slice T_api_Obj) (.pair (.int .i64) T_api_Shape))), .bool, conform_Object k⟩), (148, ⟨(.pair T_api_State T_api_Atom), (.pair T_api_Shape .bool), state_Loc k⟩)]) tabOk (.cons (conform_Object_spec k) f28_at f28_ok <| .cons (state_Loc_spec k) f148_at f148_ok <| .nil) codesOk mixedOk (fun _ _ _ _ => trivial) (hmp := mapsOk)) f98_at (fun x => (conform_loc_eq k x).symm)
noncomputable def conform_State : (k : Nat) → (Ty.D (.pair T_api_Frame (.pair (.slice T_api_Obj) T_api_State))) → Option (Ty.D .bool) := fun (k : Nat) (x : (T_api_Frame.pair (T_api_Obj.slice.pair T_api_State)).D) => P.cond x.snd.snd.fst (some false) (P.bind (P.iter k (fun (y : Int) => P.cond (P.ilt y (P.len x.fst.fst)) (P.cond (P.inb y (P.len x.fst.fst)) (P.bind (conform_variable k (x.fst, (P.get x.fst.fst y ((ByteArray.mk #[]), (0 : Int), (0 : Int))).fst)) fun (r : Int × Int) => P.bind (state_Var k (x.snd.snd, (P.get x.fst.fst y ((ByteArray.mk #[]), (0 : Int), (0 : Int))).fst)) fun (r_1 : List (Int × Int)) => P.bind (conform_Value k (x.fst, r, r_1)) fun (r : Bool) => P.cond (P.not r) (some (Sum.inr (Sum.inr false))) (some (Sum.inl (P.wrap IntKind.i64 (P.add y ((1 : Int))))))) none) (some (Sum.inr (Sum.inl PUnit.unit)))) ((0 : Int))) (P.either (fun (z : PUnit) => P.bind (P.iter k (fun (y : Int) => P.cond (P.ilt y (P.len x.snd.snd.snd.fst)) (P.cond (P.inb y (P.len x.snd.snd.snd.fst)) (P.bind (conform_variable k (x.fst, (P.get x.snd.snd.snd.fst y ((ByteArray.mk #[]), [])).fst)) fun (r : Int × Int) => P.bind (state_Var k (x.snd.snd, (P.get x.snd.snd.snd.fst y ((ByteArray.mk #[]), [])).fst)) fun (r_1 : List (Int × Int)) => P.bind (conform_Value k (x.fst, r, r_1)) fun (r : Bool) => P.cond (P.not r) (some (Sum.inr (Sum.inr false))) (some (Sum.inl (P.wrap IntKind.i64 (P.add y ((1 : Int))))))) none) (some (Sum.inr (Sum.inl PUnit.unit)))) ((0 : Int))) (P.either (fun (z : PUnit) => P.bind (P.iter k (fun (y : Int) => P.cond (P.ilt y (P.len x.fst.snd.fst)) (P.cond (P.inb y (P.len x.fst.snd.fst)) (P.cond (P.not (P.ieq (P.get x.fst.snd.fst y ((0 : Int))) ((-1 : Int)))) (P.bind (conform_loc k (x.fst, x.snd.fst, P.get x.fst.snd.fst y ((0 : Int)), x.snd.snd, (4 : Int), y)) fun (r : Bool) => P.cond (P.not r) (some (Sum.inr (Sum.inr false))) (some (Sum.inl (P.wrap IntKind.i64 (P.add y ((1 : Int))))))) (some (Sum.inl (P.wrap IntKind.i64 (P.add y ((1 : Int))))))) none) (some (Sum.inr (Sum.inl PUnit.unit)))) ((0 : Int))) (P.either (fun (z : PUnit) => P.bind (P.iter k (fun (y : Int) => P.cond (P.ilt y (P.len x.fst.snd.snd)) (P.cond (P.inb y (P.len x.fst.snd.snd)) (P.bind (P.iter k (fun (y_1 : Int) => P.cond (P.ilt y_1 (P.len (P.get x.fst.snd.snd y []))) (P.cond (P.inb y_1 (P.len (P.get x.fst.snd.snd y []))) (P.bind (conform_loc k (x.fst, x.snd.fst, P.get (P.get x.fst.snd.snd y []) y_1 ((0 : Int)), x.snd.snd, (5 : Int), y)) fun (r : Bool) => P.cond (P.not r) (some (Sum.inr (Sum.inr (Sum.inr (Sum.inr false))))) (some (Sum.inl (P.wrap IntKind.i64 (P.add y_1 ((1 : Int))))))) none) (some (Sum.inr (Sum.inl PUnit.unit)))) ((0 : Int))) (P.either (fun (z : PUnit) => some (Sum.inl (P.wrap IntKind.i64 (P.add y ((1 : Int)))))) fun (r : Int ⊕ PUnit ⊕ Bool) => some r)) none) (some (Sum.inr (Sum.inl PUnit.unit)))) ((0 : Int))) (P.either (fun (z : PUnit) => some true) fun (r : Bool) => some r)) fun (r : Bool) => some r)) fun (r : Bool) => some r)) fun (r : Bool) => some r))
theorem conform_State_eq (k : Nat) (x : (Ty.D (.pair T_api_Frame (.pair (.slice T_api_Obj) T_api_State)))) : evFn (EN k [(30, ⟨(.pair T_api_Frame (.pair T_api_Val (.slice T_api_Atom))), .bool, conform_Value k⟩), (96, ⟨(.pair T_api_Frame .str), T_api_Val, conform_variable k⟩), (97, ⟨(.pair T_api_State .str), (.slice T_api_Atom), state_Var k⟩), (98, ⟨(.pair T_api_Frame (.pair (.slice T_api_Obj) (.pair (.int .i64) (.pair T_api_State T_api_Atom)))), .bool, conform_loc k⟩)]) 6 Try.f32 [(4, ⟨[.var 22 (.d (.int .i64))], [], (some (0, []))⟩), (10, ⟨[.var 41 (.d (.int .i64))], [], (some (2, []))⟩), (16, ⟨[.var 60 (.d (.int .i64))], [], (some (4, []))⟩), (22, ⟨[.var 81 (.d (.int .i64))], [], (some (6, []))⟩), (25, ⟨[.var 88 (.d (.int .i64))], [], (some (8, []))⟩)] (.pair T_api_Frame (.pair (.slice T_api_Obj) T_api_State)) .bool x = conform_State k x := by kernel_rfl
theorem conform_State_spec (k : Nat) : SpecOk Try.prog GG 32 ⟨(.pair T_api_Frame (.pair (.slice T_api_Obj) T_api_State)), .bool, conform_State k⟩ :=
  fn_spec (envOk (E := EN k [(30, ⟨(.pair T_api_Frame (.pair T_api_Val (.slice T_api_Atom))), .bool, conform_Value k⟩), (96, ⟨(.pair T_api_Frame .str), T_api_Val, conform_variable k⟩), (97, ⟨(.pair T_api_State .str), (.slice T_api_Atom), state_Var k⟩), (98, ⟨(.pair T_api_Frame (.pair (.slice T_api_Obj) (.pair (.int .i64) (.pair T_api_State T_api_Atom)))), .bool, conform_loc k⟩)]) tabOk (.cons (conform_Value_spec k) f30_at f30_ok <| .cons (conform_variable_spec k) f96_at f96_ok <| .cons (state_Var_spec k) f97_at f97_ok <| .cons (conform_loc_spec k) f98_at f98_ok <| .nil) codesOk mixedOk (fun _ _ _ _ => trivial) (hmp := mapsOk)) f32_at (fun x => (conform_State_eq k x).symm)
noncomputable def store_Right : (k : Nat) → (Ty.D (.pair (.slice T_api_Obj) T_api_Val)) → Option (Ty.D .bool) := fun (k : Nat) (x : (T_api_Obj.slice.pair T_api_Val).D) => P.cond (P.ieq x.snd.fst ((0 : Int))) (some (P.ieq x.snd.snd ((0 : Int)))) (P.cond (P.ieq x.snd.fst ((1 : Int))) (P.cond (P.ieq x.snd.snd ((0 : Int))) (some true) (some (P.ieq x.snd.snd ((1 : Int))))) (P.cond (P.ieq x.snd.fst ((2 : Int))) (some true) (P.cond (P.ieq x.snd.fst ((3 : Int))) (some (P.ile ((0 : Int)) x.snd.snd)) (P.cond (P.ieq x.snd.fst ((4 : Int))) (P.cond (P.ile ((0 : Int)) x.snd.snd) (some (P.ilt x.snd.snd (P.len x.fst))) (some false)) (some false)))))
theorem store_Right_eq (k : Nat) (x : (Ty.D (.pair (.slice T_api_Obj) T_api_Val))) : evFn (EN k []) 6 Try.f77 [] (.pair (.slice T_api_Obj) T_api_Val) .bool x = store_Right k x := by kernel_rfl
theorem store_Right_spec (k : Nat) : SpecOk Try.prog GG 77 ⟨(.pair (.slice T_api_Obj) T_api_Val), .bool, store_Right k⟩ :=
  fn_spec (envOk (E := EN k []) tabOk (.nil) codesOk mixedOk (fun _ _ _ _ => trivial) (hmp := mapsOk)) f77_at (fun x => (store_Right_eq k x).symm)
noncomputable def store_May : (k : Nat) → (Ty.D (.slice T_api_Obj)) → Option (Ty.D .bool) := fun (k : Nat) (x : T_api_Obj.slice.D) => P.bind (P.iter k (fun (y : Int) => P.cond (P.ilt y (P.len x)) (P.cond (P.inb y (P.len x)) (P.bind (P.iter k (fun (y_1 : Int) => P.cond (P.ilt y_1 (P.len (P.get x y ([], (0 : Int), (0 : Int))).fst)) (P.cond (P.inb y_1 (P.len (P.get x y ([], (0 : Int), (0 : Int))).fst)) (P.bind (store_Right k (x, (P.get (P.get x y ([], (0 : Int), (0 : Int))).fst y_1 ((ByteArray.mk #[]), (0 : Int), (0 : Int))).snd)) fun (r : Bool) => P.cond (P.not r) (some (Sum.inr (Sum.inr (Sum.inr (Sum.inr false))))) (P.cond (P.ilt ((0 : Int)) y_1) (P.cond (P.inb (P.wrap IntKind.i64 (P.sub y_1 ((1 : Int)))) (P.len (P.get x y ([], (0 : Int), (0 : Int))).fst)) (P.cond (P.not (P.slt (P.get (P.get x y ([], (0 : Int), (0 : Int))).fst (P.wrap IntKind.i64 (P.sub y_1 ((1 : Int)))) ((ByteArray.mk #[]), (0 : Int), (0 : Int))).fst (P.get (P.get x y ([], (0 : Int), (0 : Int))).fst y_1 ((ByteArray.mk #[]), (0 : Int), (0 : Int))).fst)) (some (Sum.inr (Sum.inr (Sum.inr (Sum.inr false))))) (some (Sum.inl (P.wrap IntKind.i64 (P.add y_1 ((1 : Int))))))) none) (some (Sum.inl (P.wrap IntKind.i64 (P.add y_1 ((1 : Int)))))))) none) (some (Sum.inr (Sum.inl PUnit.unit)))) ((0 : Int))) (P.either (fun (z : PUnit) => P.cond (P.not (P.and (P.ieq (P.get x y ([], (0 : Int), (0 : Int))).snd.fst ((0 : Int))) (P.ieq (P.get x y ([], (0 : Int), (0 : Int))).snd.snd ((0 : Int))))) (P.cond (P.not (P.ieq (P.get x y ([], (0 : Int), (0 : Int))).snd.fst ((4 : Int)))) (some (Sum.inr (Sum.inr false))) (P.cond (P.ilt (P.get x y ([], (0 : Int), (0 : Int))).snd.snd ((0 : Int))) (some (Sum.inr (Sum.inr false))) (P.cond (P.ile y (P.get x y ([], (0 : Int), (0 : Int))).snd.snd) (some (Sum.inr (Sum.inr false))) (some (Sum.inl (P.wrap IntKind.i64 (P.add y ((1 : Int))))))))) (some (Sum.inl (P.wrap IntKind.i64 (P.add y ((1 : Int))))))) fun (r : Int ⊕ PUnit ⊕ Bool) => some r)) none) (some (Sum.inr (Sum.inl PUnit.unit)))) ((0 : Int))) (P.either (fun (z : PUnit) => some true) fun (r : Bool) => some r)
theorem store_May_eq (k : Nat) (x : (Ty.D (.slice T_api_Obj))) : evFn (EN k [(77, ⟨(.pair (.slice T_api_Obj) T_api_Val), .bool, store_Right k⟩)]) 6 Try.f76 [(2, ⟨[.var 9 (.d (.int .i64))], [], (some (0, []))⟩), (5, ⟨[.var 17 (.d (.int .i64))], [], (some (2, []))⟩)] (.slice T_api_Obj) .bool x = store_May k x := by kernel_rfl
theorem store_May_spec (k : Nat) : SpecOk Try.prog GG 76 ⟨(.slice T_api_Obj), .bool, store_May k⟩ :=
  fn_spec (envOk (E := EN k [(77, ⟨(.pair (.slice T_api_Obj) T_api_Val), .bool, store_Right k⟩)]) tabOk (.cons (store_Right_spec k) f77_at f77_ok <| .nil) codesOk mixedOk (fun _ _ _ _ => trivial) (hmp := mapsOk)) f76_at (fun x => (store_May_eq k x).symm)
noncomputable def conform_May : (k : Nat) → (Ty.D (.pair T_api_Frame (.slice T_api_Obj))) → Option (Ty.D .bool) := fun (k : Nat) (x : (T_api_Frame.pair T_api_Obj.slice).D) => P.bind (store_May k x.snd) fun (r : Bool) => P.cond (P.not r) (some false) (P.cond (P.not (P.ieq (P.len x.fst.snd.fst) (P.len x.fst.snd.snd))) (some false) (P.bind (P.iter k (fun (y : Int) => P.cond (P.ilt y (P.len x.fst.fst)) (P.cond (P.inb y (P.len x.fst.fst)) (P.bind (store_Right k (x.snd, (P.get x.fst.fst y ((ByteArray.mk #[]), (0 : Int), (0 : Int))).snd)) fun (r : Bool) => P.cond (P.not r) (some (Sum.inr (Sum.inr false))) (P.cond (P.ilt ((0 : Int)) y) (P.cond (P.inb (P.wrap IntKind.i64 (P.sub y ((1 : Int)))) (P.len x.fst.fst)) (P.cond (P.not (P.slt (P.get x.fst.fst (P.wrap IntKind.i64 (P.sub y ((1 : Int)))) ((ByteArray.mk #[]), (0 : Int), (0 : Int))).fst (P.get x.fst.fst y ((ByteArray.mk #[]), (0 : Int), (0 : Int))).fst)) (some (Sum.inr (Sum.inr false))) (some (Sum.inl (P.wrap IntKind.i64 (P.add y ((1 : Int))))))) none) (some (Sum.inl (P.wrap IntKind.i64 (P.add y ((1 : Int)))))))) none) (some (Sum.inr (Sum.inl PUnit.unit)))) ((0 : Int))) (P.either (fun (z : PUnit) => P.bind (slices_Clones_int k x.fst.snd.snd) fun (r : List (List Int)) => P.cond (P.room (P.add (P.len r) (P.len [x.fst.snd.fst])) 24) (P.bind (P.iter k (fun (y : Int × Int) => P.cond (P.ilt y.snd (P.len (P.app r [x.fst.snd.fst]))) (P.cond (P.inb y.snd (P.len (P.app r [x.fst.snd.fst]))) (P.cond (P.ilt (P.wrap IntKind.i64 (P.add y.fst (P.len (P.get (P.app r [x.fst.snd.fst]) y.snd [])))) ((0 : Int))) none (some (Sum.inl (P.wrap IntKind.i64 (P.add y.fst (P.len (P.get (P.app r [x.fst.snd.fst]) y.snd []))), P.wrap IntKind.i64 (P.add y.snd ((1 : Int))))))) none) (some (Sum.inr (Sum.inl y.fst)))) ((0 : Int), (0 : Int))) (P.either (fun (z : Int) => P.cond (P.ilt z ((0 : Int))) none (P.cond (P.ilt ((0 : Int)) (P.wrap IntKind.i64 (P.sub z (P.wrap IntKind.i64 (P.sub ((0 : Int)) ((0 : Int))))))) (P.cond (P.cut ((0 : Int)) ((0 : Int)) ((0 : Int))) (P.cond (P.ilt ((0 : Int)) (P.wrap IntKind.i64 (P.sub z (P.wrap IntKind.i64 (P.sub ((0 : Int)) ((0 : Int))))))) (P.cond (P.room (P.wrap IntKind.i64 (P.sub z (P.wrap IntKind.i64 (P.sub ((0 : Int)) ((0 : Int)))))) 8) (P.cond (P.cut ((0 : Int)) ((0 : Int)) (P.len (P.rep (P.wrap IntKind.i64 (P.sub z (P.wrap IntKind.i64 (P.sub ((0 : Int)) ((0 : Int)))))) ((0 : Int))))) (P.bind (P.iter k (fun (y : List Int × Int) => P.cond (P.ilt y.snd (P.len (P.app r [x.fst.snd.fst]))) (P.cond (P.inb y.snd (P.len (P.app r [x.fst.snd.fst]))) (P.cond (P.room (P.add (P.len y.fst) (P.len (P.get (P.app r [x.fst.snd.fst]) y.snd []))) 8) (some (Sum.inl (P.app y.fst (P.get (P.app r [x.fst.snd.fst]) y.snd []), P.wrap IntKind.i64 (P.add y.snd ((1 : Int)))))) none) none) (some (Sum.inr (Sum.inl y.fst)))) (P.sub_ (P.rep (P.wrap IntKind.i64 (P.sub z (P.wrap IntKind.i64 (P.sub ((0 : Int)) ((0 : Int)))))) ((0 : Int))) ((0 : Int)) ((0 : Int)), (0 : Int))) (P.either (fun (z : List Int) => P.bind (P.iter k (fun (y : Int × List (Int × Bool)) => P.cond (P.ilt y.fst (P.len z)) (P.cond (P.inb y.fst (P.len z)) (P.cond (P.ieq (P.get z y.fst ((0 : Int))) ((-1 : Int))) (some (Sum.inl (P.wrap IntKind.i64 (P.add y.fst ((1 : Int))), y.snd))) (P.cond (P.ilt (P.get z y.fst ((0 : Int))) ((0 : Int))) (some (Sum.inr (Sum.inr false))) (P.cond (P.ile (P.len x.snd) (P.get z y.fst ((0 : Int)))) (some (Sum.inr (Sum.inr false))) (P.cond (P.mval (fun (x y : Int) => P.ieq x y) y.snd (P.get z y.fst ((0 : Int))) false) (some (Sum.inr (Sum.inr false))) (some (Sum.inl (P.wrap IntKind.i64 (P.add y.fst ((1 : Int))), P.mput (fun (x y : Int) => P.ieq x y) y.snd (P.get z y.fst ((0 : Int))) true))))))) none) (some (Sum.inr (Sum.inl y.snd)))) ((0 : Int), [])) (P.either (fun (z : List (Int × Bool)) => P.bind (P.iter k (fun (y : Int × Int) => P.cond (P.ilt y.snd (P.len x.fst.snd.snd)) (P.cond (P.inb y.snd (P.len x.fst.snd.snd)) (P.cond (P.ilt (P.wrap IntKind.i64 (P.add y.fst (P.len (P.get x.fst.snd.snd y.snd [])))) ((0 : Int))) none (some (Sum.inl (P.wrap IntKind.i64 (P.add y.fst (P.len (P.get x.fst.snd.snd y.snd []))), P.wrap IntKind.i64 (P.add y.snd ((1 : Int))))))) none) (some (Sum.inr (Sum.inl y.fst)))) ((0 : Int), (0 : Int))) (P.either (fun (z : Int) => P.cond (P.ilt z ((0 : Int))) none (P.cond (P.ilt ((0 : Int)) (P.wrap IntKind.i64 (P.sub z (P.wrap IntKind.i64 (P.sub ((0 : Int)) ((0 : Int))))))) (P.cond (P.cut ((0 : Int)) ((0 : Int)) ((0 : Int))) (P.cond (P.ilt ((0 : Int)) (P.wrap IntKind.i64 (P.sub z (P.wrap IntKind.i64 (P.sub ((0 : Int)) ((0 : Int))))))) (P.cond (P.room (P.wrap IntKind.i64 (P.sub z (P.wrap IntKind.i64 (P.sub ((0 : Int)) ((0 : Int)))))) 8) (P.cond (P.cut ((0 : Int)) ((0 : Int)) (P.len (P.rep (P.wrap IntKind.i64 (P.sub z (P.wrap IntKind.i64 (P.sub ((0 : Int)) ((0 : Int)))))) ((0 : Int))))) (P.bind (P.iter k (fun (y : List Int × Int) => P.cond (P.ilt y.snd (P.len x.fst.snd.snd)) (P.cond (P.inb y.snd (P.len x.fst.snd.snd)) (P.cond (P.room (P.add (P.len y.fst) (P.len (P.get x.fst.snd.snd y.snd []))) 8) (some (Sum.inl (P.app y.fst (P.get x.fst.snd.snd y.snd []), P.wrap IntKind.i64 (P.add y.snd ((1 : Int)))))) none) none) (some (Sum.inr (Sum.inl y.fst)))) (P.sub_ (P.rep (P.wrap IntKind.i64 (P.sub z (P.wrap IntKind.i64 (P.sub ((0 : Int)) ((0 : Int)))))) ((0 : Int))) ((0 : Int)) ((0 : Int)), (0 : Int))) (P.either (fun (z : List Int) => P.bind (P.iter k (fun (y : Int) => P.cond (P.ilt y (P.len z)) (P.cond (P.inb y (P.len z)) (P.cond (P.ieq ((-1 : Int)) (P.get z y ((0 : Int)))) (some (Sum.inr (Sum.inr (P.not (P.ile ((0 : Int)) y))))) (some (Sum.inl (P.wrap IntKind.i64 (P.add y ((1 : Int))))))) none) (some (Sum.inr (Sum.inl PUnit.unit)))) ((0 : Int))) (P.either (fun (z : PUnit) => some (P.not (P.ile ((0 : Int)) ((-1 : Int))))) fun (r : Bool) => some r)) fun (r : Bool) => some r)) none) none) none) none) (P.bind (P.iter k (fun (y : List Int × Int) => P.cond (P.ilt y.snd (P.len x.fst.snd.snd)) (P.cond (P.inb y.snd (P.len x.fst.snd.snd)) (P.cond (P.room (P.add (P.len y.fst) (P.len (P.get x.fst.snd.snd y.snd []))) 8) (some (Sum.inl (P.app y.fst (P.get x.fst.snd.snd y.snd []), P.wrap IntKind.i64 (P.add y.snd ((1 : Int)))))) none) none) (some (Sum.inr (Sum.inl y.fst)))) ([], (0 : Int))) (P.either (fun (z : List Int) => P.bind (P.iter k (fun (y : Int) => P.cond (P.ilt y (P.len z)) (P.cond (P.inb y (P.len z)) (P.cond (P.ieq ((-1 : Int)) (P.get z y ((0 : Int)))) (some (Sum.inr (Sum.inr (P.not (P.ile ((0 : Int)) y))))) (some (Sum.inl (P.wrap IntKind.i64 (P.add y ((1 : Int))))))) none) (some (Sum.inr (Sum.inl PUnit.unit)))) ((0 : Int))) (P.either (fun (z : PUnit) => some (P.not (P.ile ((0 : Int)) ((-1 : Int))))) fun (r : Bool) => some r)) fun (r : Bool) => some r)))) fun (r : Bool) => some r)) fun (r : Bool) => some r)) fun (r : Bool) => some r)) none) none) none) none) (P.bind (P.iter k (fun (y : List Int × Int) => P.cond (P.ilt y.snd (P.len (P.app r [x.fst.snd.fst]))) (P.cond (P.inb y.snd (P.len (P.app r [x.fst.snd.fst]))) (P.cond (P.room (P.add (P.len y.fst) (P.len (P.get (P.app r [x.fst.snd.fst]) y.snd []))) 8) (some (Sum.inl (P.app y.fst (P.get (P.app r [x.fst.snd.fst]) y.snd []), P.wrap IntKind.i64 (P.add y.snd ((1 : Int)))))) none) none) (some (Sum.inr (Sum.inl y.fst)))) ([], (0 : Int))) (P.either (fun (z : List Int) => P.bind (P.iter k (fun (y : Int × List (Int × Bool)) => P.cond (P.ilt y.fst (P.len z)) (P.cond (P.inb y.fst (P.len z)) (P.cond (P.ieq (P.get z y.fst ((0 : Int))) ((-1 : Int))) (some (Sum.inl (P.wrap IntKind.i64 (P.add y.fst ((1 : Int))), y.snd))) (P.cond (P.ilt (P.get z y.fst ((0 : Int))) ((0 : Int))) (some (Sum.inr (Sum.inr false))) (P.cond (P.ile (P.len x.snd) (P.get z y.fst ((0 : Int)))) (some (Sum.inr (Sum.inr false))) (P.cond (P.mval (fun (x y : Int) => P.ieq x y) y.snd (P.get z y.fst ((0 : Int))) false) (some (Sum.inr (Sum.inr false))) (some (Sum.inl (P.wrap IntKind.i64 (P.add y.fst ((1 : Int))), P.mput (fun (x y : Int) => P.ieq x y) y.snd (P.get z y.fst ((0 : Int))) true))))))) none) (some (Sum.inr (Sum.inl y.snd)))) ((0 : Int), [])) (P.either (fun (z : List (Int × Bool)) => P.bind (P.iter k (fun (y : Int × Int) => P.cond (P.ilt y.snd (P.len x.fst.snd.snd)) (P.cond (P.inb y.snd (P.len x.fst.snd.snd)) (P.cond (P.ilt (P.wrap IntKind.i64 (P.add y.fst (P.len (P.get x.fst.snd.snd y.snd [])))) ((0 : Int))) none (some (Sum.inl (P.wrap IntKind.i64 (P.add y.fst (P.len (P.get x.fst.snd.snd y.snd []))), P.wrap IntKind.i64 (P.add y.snd ((1 : Int))))))) none) (some (Sum.inr (Sum.inl y.fst)))) ((0 : Int), (0 : Int))) (P.either (fun (z : Int) => P.cond (P.ilt z ((0 : Int))) none (P.cond (P.ilt ((0 : Int)) (P.wrap IntKind.i64 (P.sub z (P.wrap IntKind.i64 (P.sub ((0 : Int)) ((0 : Int))))))) (P.cond (P.cut ((0 : Int)) ((0 : Int)) ((0 : Int))) (P.cond (P.ilt ((0 : Int)) (P.wrap IntKind.i64 (P.sub z (P.wrap IntKind.i64 (P.sub ((0 : Int)) ((0 : Int))))))) (P.cond (P.room (P.wrap IntKind.i64 (P.sub z (P.wrap IntKind.i64 (P.sub ((0 : Int)) ((0 : Int)))))) 8) (P.cond (P.cut ((0 : Int)) ((0 : Int)) (P.len (P.rep (P.wrap IntKind.i64 (P.sub z (P.wrap IntKind.i64 (P.sub ((0 : Int)) ((0 : Int)))))) ((0 : Int))))) (P.bind (P.iter k (fun (y : List Int × Int) => P.cond (P.ilt y.snd (P.len x.fst.snd.snd)) (P.cond (P.inb y.snd (P.len x.fst.snd.snd)) (P.cond (P.room (P.add (P.len y.fst) (P.len (P.get x.fst.snd.snd y.snd []))) 8) (some (Sum.inl (P.app y.fst (P.get x.fst.snd.snd y.snd []), P.wrap IntKind.i64 (P.add y.snd ((1 : Int)))))) none) none) (some (Sum.inr (Sum.inl y.fst)))) (P.sub_ (P.rep (P.wrap IntKind.i64 (P.sub z (P.wrap IntKind.i64 (P.sub ((0 : Int)) ((0 : Int)))))) ((0 : Int))) ((0 : Int)) ((0 : Int)), (0 : Int))) (P.either (fun (z : List Int) => P.bind (P.iter k (fun (y : Int) => P.cond (P.ilt y (P.len z)) (P.cond (P.inb y (P.len z)) (P.cond (P.ieq ((-1 : Int)) (P.get z y ((0 : Int)))) (some (Sum.inr (Sum.inr (P.not (P.ile ((0 : Int)) y))))) (some (Sum.inl (P.wrap IntKind.i64 (P.add y ((1 : Int))))))) none) (some (Sum.inr (Sum.inl PUnit.unit)))) ((0 : Int))) (P.either (fun (z : PUnit) => some (P.not (P.ile ((0 : Int)) ((-1 : Int))))) fun (r : Bool) => some r)) fun (r : Bool) => some r)) none) none) none) none) (P.bind (P.iter k (fun (y : List Int × Int) => P.cond (P.ilt y.snd (P.len x.fst.snd.snd)) (P.cond (P.inb y.snd (P.len x.fst.snd.snd)) (P.cond (P.room (P.add (P.len y.fst) (P.len (P.get x.fst.snd.snd y.snd []))) 8) (some (Sum.inl (P.app y.fst (P.get x.fst.snd.snd y.snd []), P.wrap IntKind.i64 (P.add y.snd ((1 : Int)))))) none) none) (some (Sum.inr (Sum.inl y.fst)))) ([], (0 : Int))) (P.either (fun (z : List Int) => P.bind (P.iter k (fun (y : Int) => P.cond (P.ilt y (P.len z)) (P.cond (P.inb y (P.len z)) (P.cond (P.ieq ((-1 : Int)) (P.get z y ((0 : Int)))) (some (Sum.inr (Sum.inr (P.not (P.ile ((0 : Int)) y))))) (some (Sum.inl (P.wrap IntKind.i64 (P.add y ((1 : Int))))))) none) (some (Sum.inr (Sum.inl PUnit.unit)))) ((0 : Int))) (P.either (fun (z : PUnit) => some (P.not (P.ile ((0 : Int)) ((-1 : Int))))) fun (r : Bool) => some r)) fun (r : Bool) => some r)))) fun (r : Bool) => some r)) fun (r : Bool) => some r)) fun (r : Bool) => some r)))) fun (r : Bool) => some r)) none) fun (r : Bool) => some r)))
noncomputable abbrev EN34 (k : Nat) (sp : List (Nat × Go.PG.Spec)) : Go.PG.Env := { T := T, specs := sp, codes := codesM, k := k, calm := [168, 101, 100, 0], maps := [(146, (.int .i64), .bool)], ospecs := [(101, ⟨(.slice (.slice (.int .i64))), (.slice (.int .i64)), slices_Clones_int k⟩)] }
theorem conform_May_eq (k : Nat) (x : (Ty.D (.pair T_api_Frame (.slice T_api_Obj)))) : evFn (EN34 k [(76, ⟨(.slice T_api_Obj), .bool, store_May k⟩), (77, ⟨(.pair (.slice T_api_Obj) T_api_Val), .bool, store_Right k⟩)]) 6 Try.f34 [(4, ⟨[.var 25 (.d (.int .i64))], [], (some (0, []))⟩), (11, ⟨[.var 62 (.d (.int .i64)), .box 7 [] (.d (.map (.int .i64) .bool))], [], (some (2, [.box 7 [] (.d (.map (.int .i64) .bool))]))⟩)] (.pair T_api_Frame (.slice T_api_Obj)) .bool x = conform_May k x := by kernel_rfl
theorem conform_May_spec (k : Nat) : SpecOk Try.prog GG 34 ⟨(.pair T_api_Frame (.slice T_api_Obj)), .bool, conform_May k⟩ :=
  fn_spec (envOk (E := EN34 k [(76, ⟨(.slice T_api_Obj), .bool, store_May k⟩), (77, ⟨(.pair (.slice T_api_Obj) T_api_Val), .bool, store_Right k⟩)]) tabOk (.cons (store_May_spec k) f76_at f76_ok <| .cons (store_Right_spec k) f77_at f77_ok <| .nil) codesMOk mixedOk (fun _ _ _ _ => trivial) (hmp := mapsOk) (ho := .cons (slices_Clones_int_ospec k) f101_at f101_ok <| .nil)) f34_at (fun x => (conform_May_eq k x).symm)
noncomputable def conform_Fresh : (k : Nat) → (Ty.D (.pair T_api_Frame (.pair (.int .i64) (.int .i64)))) → Option (Ty.D T_api_Frame) := fun (k : Nat) (x : (T_api_Frame.pair ((Ty.int IntKind.i64).pair (Ty.int IntKind.i64))).D) => P.bind (slices_Clone_api_Prop_api_Prop k x.fst.fst) fun (r : List (ByteArray × Int × Int)) => P.bind (slices_Clone_int_int k x.fst.snd.fst) fun (r_1 : List Int) => P.bind (P.iter k (fun (y : Int × List (ByteArray × Int × Int) × List Int × List (PUnit × Option (List Int))) => P.cond (P.ilt y.fst (P.len x.fst.snd.snd)) (P.cond (P.inb y.fst (P.len x.fst.snd.snd)) (P.bind (slices_Clone_int_int k (P.get x.fst.snd.snd y.fst [])) fun (r : List Int) => P.cond (P.room (P.add (P.len y.snd.snd.snd) (P.len [(PUnit.unit, some r)])) 24) (some (Sum.inl (P.wrap IntKind.i64 (P.add y.fst ((1 : Int))), y.snd.fst, y.snd.snd.fst, P.app y.snd.snd.snd [(PUnit.unit, some r)]))) none) none) (some (Sum.inr (Sum.inl (y.snd.fst, y.snd.snd.fst, y.snd.snd.snd))))) ((0 : Int), r, r_1, [])) (P.either (fun (z : List (ByteArray × Int × Int) × List Int × List (PUnit × Option (List Int))) => P.cond (P.ilt x.snd.fst ((0 : Int))) (P.bind (P.dall z.snd.snd) fun (y : List (List Int)) => some (z.fst, z.snd.fst, y)) (P.cond (P.ilt ((2000 : Int)) x.snd.fst) (P.bind (P.dall z.snd.snd) fun (y : List (List Int)) => some (z.fst, z.snd.fst, y)) (P.bind (P.iter k (fun (y : List (ByteArray × Int × Int) × List Int × List (PUnit × Option (List Int))) => P.cond (P.ile (P.len y.snd.fst) x.snd.fst) (P.cond (P.room (P.add (P.len y.snd.fst) (P.len [(-1 : Int)])) 8) (some (Sum.inl (y.fst, P.app y.snd.fst [(-1 : Int)], y.snd.snd))) none) (some (Sum.inr (Sum.inl (y.fst, y.snd.fst, y.snd.snd))))) (z.fst, z.snd.fst, z.snd.snd)) (P.either (fun (z : List (ByteArray × Int × Int) × List Int × List (PUnit × Option (List Int))) => P.bind (P.iter k (fun (y : List (ByteArray × Int × Int) × List Int × List (PUnit × Option (List Int))) => P.cond (P.ile (P.len y.snd.snd) x.snd.fst) (P.cond (P.room (P.add (P.len y.snd.snd) (P.len [(PUnit.unit, some ([] : List Int))])) 24) (some (Sum.inl (y.fst, y.snd.fst, P.app y.snd.snd [(PUnit.unit, some ([] : List Int))]))) none) (some (Sum.inr (Sum.inl (y.fst, y.snd.fst, y.snd.snd))))) (z.fst, z.snd.fst, z.snd.snd)) (P.either (fun (z : List (ByteArray × Int × Int) × List Int × List (PUnit × Option (List Int))) => P.cond (P.inb x.snd.fst (P.len z.snd.fst)) (P.cond (P.not (P.ieq (P.get z.snd.fst x.snd.fst ((0 : Int))) ((-1 : Int)))) (P.cond (P.inb x.snd.fst (P.len z.snd.snd)) (P.bind (P.dent z.snd.snd x.snd.fst) fun (ys : List Int) => P.cond (P.room (P.add (P.len ys) (P.len [P.get z.snd.fst x.snd.fst ((0 : Int))])) 8) (P.cond (P.inb x.snd.fst (P.len (P.dhole z.snd.snd x.snd.fst PUnit.unit))) (P.cond (P.inb x.snd.fst (P.len z.snd.fst)) (P.bind (P.dall (P.dgive (P.dhole z.snd.snd x.snd.fst PUnit.unit) x.snd.fst PUnit.unit (P.app ys [P.get z.snd.fst x.snd.fst ((0 : Int))]))) fun (y : List (List Int)) => some (z.fst, P.set z.snd.fst x.snd.fst x.snd.snd, y)) none) none) none) none) (P.cond (P.inb x.snd.fst (P.len z.snd.fst)) (P.bind (P.dall z.snd.snd) fun (y : List (List Int)) => some (z.fst, P.set z.snd.fst x.snd.fst x.snd.snd, y)) none)) none) fun (r : List (ByteArray × Int × Int) × List Int × List (List Int)) => some r)) fun (r : List (ByteArray × Int × Int) × List Int × List (List Int)) => some r)))) fun (r : List (ByteArray × Int × Int) × List Int × List (List Int)) => some r)
noncomputable abbrev EN37 (k : Nat) (sp : List (Nat × Go.PG.Spec)) : Go.PG.Env := { T := T, specs := sp, codes := codesR, k := k, calm := [168, 152, 0], maps := [(146, (.int .i64), .bool)], drows := [(41, (.int .i64), 24)], lend := [51, 56], ospecs := [(152, ⟨(.slice (.int .i64)), (.int .i64), slices_Clone_int_int k⟩)] }
theorem conform_Fresh_eq (k : Nat) (x : (Ty.D (.pair T_api_Frame (.pair (.int .i64) (.int .i64))))) : evFn (EN37 k [(151, ⟨(.slice T_api_Prop), (.slice T_api_Prop), slices_Clone_api_Prop_api_Prop k⟩)]) 6 Try.f37 [(4, ⟨[.box 7 [] (.s (.p (.d (.slice T_api_Prop)) (.p (.o (.int .i64)) (.r (.int .i64)))))], [], (some (0, [.box 7 [] (.s (.p (.d (.slice T_api_Prop)) (.p (.o (.int .i64)) (.r (.int .i64)))))]))⟩), (6, ⟨[.box 7 [] (.s (.p (.d (.slice T_api_Prop)) (.p (.o (.int .i64)) (.r (.int .i64)))))], [], (some (2, [.box 7 [] (.s (.p (.d (.slice T_api_Prop)) (.p (.o (.int .i64)) (.r (.int .i64)))))]))⟩)] (.pair T_api_Frame (.pair (.int .i64) (.int .i64))) T_api_Frame x = conform_Fresh k x := by kernel_rfl
theorem conform_Fresh_spec (k : Nat) : SpecOk Try.prog GG 37 ⟨(.pair T_api_Frame (.pair (.int .i64) (.int .i64))), T_api_Frame, conform_Fresh k⟩ :=
  fn_spec (envOk (E := EN37 k [(151, ⟨(.slice T_api_Prop), (.slice T_api_Prop), slices_Clone_api_Prop_api_Prop k⟩)]) tabOk (.cons (slices_Clone_api_Prop_api_Prop_spec k) f151_at f151_ok <| .nil) codesROk mixedOk (fun _ _ _ _ => trivial) (hmp := mapsOk) (ho := .cons (slices_Clone_int_int_ospec k) f152_at f152_ok <| .nil)) f37_at (fun x => (conform_Fresh_eq k x).symm)
noncomputable def law21_obj : (k : Nat) → (Ty.D (.int .i64)) → Option (Ty.D T_api_Val) := fun (k : Nat) (x : (Ty.int IntKind.i64).D) => some ((4 : Int), x)
theorem law21_obj_eq (k : Nat) (x : (Ty.D (.int .i64))) : evFn (EN k []) 6 Try.f50 [] (.int .i64) T_api_Val x = law21_obj k x := by kernel_rfl
theorem law21_obj_spec (k : Nat) : SpecOk Try.prog GG 50 ⟨(.int .i64), T_api_Val, law21_obj k⟩ :=
  fn_spec (envOk (E := EN k []) tabOk (.nil) codesOk mixedOk (fun _ _ _ _ => trivial) (hmp := mapsOk)) f50_at (fun x => (law21_obj_eq k x).symm)
noncomputable def ref06_Num : (k : Nat) → (Ty.D .unit) → Option (Ty.D (.slice T_api_Atom)) := fun (k : Nat) (x : Ty.unit.D) => some [((2 : Int), (0 : Int))]
theorem ref06_Num_eq (k : Nat) (x : (Ty.D .unit)) : evFn (EN k []) 6 Try.f61 [] .unit (.slice T_api_Atom) x = ref06_Num k x := by kernel_rfl
theorem ref06_Num_spec (k : Nat) : SpecOk Try.prog GG 61 ⟨.unit, (.slice T_api_Atom), ref06_Num k⟩ :=
  fn_spec (envOk (E := EN k []) tabOk (.nil) codesOk mixedOk (fun _ _ _ _ => trivial) (hmp := mapsOk)) f61_at (fun x => (ref06_Num_eq k x).symm)
noncomputable def ref06_Null : (k : Nat) → (Ty.D .unit) → Option (Ty.D (.slice T_api_Atom)) := fun (k : Nat) (x : Ty.unit.D) => some [((0 : Int), (0 : Int))]
theorem ref06_Null_eq (k : Nat) (x : (Ty.D .unit)) : evFn (EN k []) 6 Try.f62 [] .unit (.slice T_api_Atom) x = ref06_Null k x := by kernel_rfl
theorem ref06_Null_spec (k : Nat) : SpecOk Try.prog GG 62 ⟨.unit, (.slice T_api_Atom), ref06_Null k⟩ :=
  fn_spec (envOk (E := EN k []) tabOk (.nil) codesOk mixedOk (fun _ _ _ _ => trivial) (hmp := mapsOk)) f62_at (fun x => (ref06_Null_eq k x).symm)
noncomputable def law21_one : (k : Nat) → (Ty.D .unit) → Option (Ty.D T_proteanlaw21_All) := fun (k : Nat) (x : Ty.unit.D) => P.bind (law21_obj k ((0 : Int))) fun (r : Int × Int) => P.bind (ref06_Num k PUnit.unit) fun (r_1 : List (Int × Int)) => P.bind (ref06_Null k PUnit.unit) fun (r_2 : List (Int × Int)) => some (([((ByteArray.mk #[120]), r)], [(0 : Int)], [[]]), [([((ByteArray.mk #[112]), (2 : Int), (1 : Int))], (0 : Int), (0 : Int))], false, [((ByteArray.mk #[120]), [((4 : Int), (0 : Int))])], [(((4 : Int), (0 : Int)), [((ByteArray.mk #[112]), true, r_1)], r_2)])
noncomputable abbrev EN85 (k : Nat) (sp : List (Nat × Go.PG.Spec)) : Go.PG.Env := { T := T, specs := sp, codes := codes, k := k, calm := [168, 0, 1], maps := [(146, (.int .i64), .bool)] }
theorem law21_one_eq (k : Nat) (x : (Ty.D .unit)) : evFn (EN85 k [(50, ⟨(.int .i64), T_api_Val, law21_obj k⟩), (61, ⟨.unit, (.slice T_api_Atom), ref06_Num k⟩), (62, ⟨.unit, (.slice T_api_Atom), ref06_Null k⟩)]) 6 Try.f85 [] .unit T_proteanlaw21_All x = law21_one k x := by kernel_rfl
theorem law21_one_spec (k : Nat) : SpecOk Try.prog GG 85 ⟨.unit, T_proteanlaw21_All, law21_one k⟩ :=
  fn_spec (envOk (E := EN85 k [(50, ⟨(.int .i64), T_api_Val, law21_obj k⟩), (61, ⟨.unit, (.slice T_api_Atom), ref06_Num k⟩), (62, ⟨.unit, (.slice T_api_Atom), ref06_Null k⟩)]) tabOk (.cons (law21_obj_spec k) f50_at f50_ok <| .cons (ref06_Num_spec k) f61_at f61_ok <| .cons (ref06_Null_spec k) f62_at f62_ok <| .nil) codesOk mixedOk (fun _ _ _ _ => trivial) (hmp := mapsOk)) f85_at (fun x => (law21_one_eq k x).symm)
noncomputable def law21_fixed : (k : Nat) → (Ty.D .unit) → Option (Ty.D .bool) := fun (k : Nat) (x : Ty.unit.D) => P.bind (law21_one k PUnit.unit) fun (r : (List (ByteArray × Int × Int) × List Int × List (List Int)) × List (List (ByteArray × Int × Int) × Int × Int) × Bool × List (ByteArray × List (Int × Int)) × List ((Int × Int) × List (ByteArray × Bool × List (Int × Int)) × List (Int × Int))) => P.bind (conform_Fresh k (r.fst, (0 : Int), (1 : Int))) fun (r_1 : List (ByteArray × Int × Int) × List Int × List (List Int)) => P.bind (conform_State k (r.fst, r.snd.fst, r.snd.snd)) fun (r_2 : Bool) => P.cond r_2 (P.bind (conform_State k (r.fst, [], r.snd.snd)) fun (r_3 : Bool) => P.cond (P.not r_3) (P.bind (conform_State k (r.fst, r.snd.fst, false, [], [])) fun (r_4 : Bool) => P.cond (P.not r_4) (P.bind (conform_May k (r.fst, r.snd.fst)) fun (r_5 : Bool) => P.cond r_5 (P.cond (P.inb ((0 : Int)) (P.len r.snd.snd.snd.snd)) (P.bind (conform_Object k (r.fst, r.snd.fst, (0 : Int), (P.get r.snd.snd.snd.snd ((0 : Int)) (((0 : Int), (0 : Int)), [], [])).snd)) fun (r_6 : Bool) => P.cond r_6 (P.bind (law21_obj k ((0 : Int))) fun (r_7 : Int × Int) => P.bind (conform_Value k (r.fst, r_7, [((4 : Int), (0 : Int))])) fun (r_8 : Bool) => P.cond r_8 (P.bind (law21_obj k ((0 : Int))) fun (r_9 : Int × Int) => P.bind (ref06_Num k PUnit.unit) fun (r_10 : List (Int × Int)) => P.bind (conform_Value k (r.fst, r_9, r_10)) fun (r : Bool) => P.cond (P.not r) (P.cond (P.ieq (P.len r_1.snd.fst) ((1 : Int))) (P.cond (P.inb ((0 : Int)) (P.len r_1.snd.fst)) (P.cond (P.ieq (P.get r_1.snd.fst ((0 : Int)) ((0 : Int))) ((1 : Int))) (P.cond (P.inb ((0 : Int)) (P.len r_1.snd.snd)) (P.cond (P.ieq (P.len (P.get r_1.snd.snd ((0 : Int)) [])) ((1 : Int))) (P.cond (P.inb ((0 : Int)) (P.len r_1.snd.snd)) (P.cond (P.inb ((0 : Int)) (P.len (P.get r_1.snd.snd ((0 : Int)) []))) (some (P.ieq (P.get (P.get r_1.snd.snd ((0 : Int)) []) ((0 : Int)) ((0 : Int))) ((0 : Int)))) none) none) (some false)) none) (some false)) none) (some false)) (some false)) (some false)) (some false)) none) (some false)) (some false)) (some false)) (some false)
noncomputable abbrev EN27 (k : Nat) (sp : List (Nat × Go.PG.Spec)) : Go.PG.Env := { T := T, specs := sp, codes := codes, k := k, calm := [168, 0, 1], maps := [(146, (.int .i64), .bool)] }
theorem law21_fixed_eq (k : Nat) (x : (Ty.D .unit)) : evFn (EN27 k [(28, ⟨(.pair T_api_Frame (.pair (.slice T_api_Obj) (.pair (.int .i64) T_api_Shape))), .bool, conform_Object k⟩), (30, ⟨(.pair T_api_Frame (.pair T_api_Val (.slice T_api_Atom))), .bool, conform_Value k⟩), (32, ⟨(.pair T_api_Frame (.pair (.slice T_api_Obj) T_api_State)), .bool, conform_State k⟩), (34, ⟨(.pair T_api_Frame (.slice T_api_Obj)), .bool, conform_May k⟩), (37, ⟨(.pair T_api_Frame (.pair (.int .i64) (.int .i64))), T_api_Frame, conform_Fresh k⟩), (50, ⟨(.int .i64), T_api_Val, law21_obj k⟩), (61, ⟨.unit, (.slice T_api_Atom), ref06_Num k⟩), (85, ⟨.unit, T_proteanlaw21_All, law21_one k⟩)]) 6 Try.f27 [] .unit .bool x = law21_fixed k x := by kernel_rfl
theorem law21_fixed_spec (k : Nat) : SpecOk Try.prog GG 27 ⟨.unit, .bool, law21_fixed k⟩ :=
  fn_spec (envOk (E := EN27 k [(28, ⟨(.pair T_api_Frame (.pair (.slice T_api_Obj) (.pair (.int .i64) T_api_Shape))), .bool, conform_Object k⟩), (30, ⟨(.pair T_api_Frame (.pair T_api_Val (.slice T_api_Atom))), .bool, conform_Value k⟩), (32, ⟨(.pair T_api_Frame (.pair (.slice T_api_Obj) T_api_State)), .bool, conform_State k⟩), (34, ⟨(.pair T_api_Frame (.slice T_api_Obj)), .bool, conform_May k⟩), (37, ⟨(.pair T_api_Frame (.pair (.int .i64) (.int .i64))), T_api_Frame, conform_Fresh k⟩), (50, ⟨(.int .i64), T_api_Val, law21_obj k⟩), (61, ⟨.unit, (.slice T_api_Atom), ref06_Num k⟩), (85, ⟨.unit, T_proteanlaw21_All, law21_one k⟩)]) tabOk (.cons (conform_Object_spec k) f28_at f28_ok <| .cons (conform_Value_spec k) f30_at f30_ok <| .cons (conform_State_spec k) f32_at f32_ok <| .cons (conform_May_spec k) f34_at f34_ok <| .cons (conform_Fresh_spec k) f37_at f37_ok <| .cons (law21_obj_spec k) f50_at f50_ok <| .cons (ref06_Num_spec k) f61_at f61_ok <| .cons (law21_one_spec k) f85_at f85_ok <| .nil) codesOk mixedOk (fun _ _ _ _ => trivial) (hmp := mapsOk)) f27_at (fun x => (law21_fixed_eq k x).symm)
noncomputable def ref21_Value : (k : Nat) → (Ty.D (.pair T_api_Frame (.pair T_api_Val (.slice T_api_Atom)))) → Option (Ty.D .bool) := fun (k : Nat) (x : (T_api_Frame.pair (T_api_Val.pair T_api_Atom.slice)).D) => P.bind (P.iter k (fun (y : Int) => P.cond (P.ilt y (P.len x.snd.snd)) (P.cond (P.inb y (P.len x.snd.snd)) (P.cond (P.ieq (P.get x.snd.snd y ((0 : Int), (0 : Int))).fst ((0 : Int))) (P.cond (P.ieq x.snd.fst.fst (P.get x.snd.snd y ((0 : Int), (0 : Int))).fst) (some (Sum.inr (Sum.inr true))) (some (Sum.inl (P.wrap IntKind.i64 (P.add y ((1 : Int))))))) (P.cond (P.ieq (P.get x.snd.snd y ((0 : Int), (0 : Int))).fst ((1 : Int))) (P.cond (P.ieq x.snd.fst.fst (P.get x.snd.snd y ((0 : Int), (0 : Int))).fst) (some (Sum.inr (Sum.inr true))) (some (Sum.inl (P.wrap IntKind.i64 (P.add y ((1 : Int))))))) (P.cond (P.ieq (P.get x.snd.snd y ((0 : Int), (0 : Int))).fst ((2 : Int))) (P.cond (P.ieq x.snd.fst.fst (P.get x.snd.snd y ((0 : Int), (0 : Int))).fst) (some (Sum.inr (Sum.inr true))) (some (Sum.inl (P.wrap IntKind.i64 (P.add y ((1 : Int))))))) (P.cond (P.ieq (P.get x.snd.snd y ((0 : Int), (0 : Int))).fst ((3 : Int))) (P.cond (P.ieq x.snd.fst.fst ((3 : Int))) (P.cond (P.ieq x.snd.fst.snd (P.get x.snd.snd y ((0 : Int), (0 : Int))).snd) (some (Sum.inr (Sum.inr true))) (some (Sum.inl (P.wrap IntKind.i64 (P.add y ((1 : Int))))))) (some (Sum.inl (P.wrap IntKind.i64 (P.add y ((1 : Int))))))) (P.cond (P.ieq (P.get x.snd.snd y ((0 : Int), (0 : Int))).fst ((4 : Int))) (P.cond (P.ieq x.snd.fst.fst ((4 : Int))) (P.cond (P.ile ((0 : Int)) (P.get x.snd.snd y ((0 : Int), (0 : Int))).snd) (P.cond (P.ilt (P.get x.snd.snd y ((0 : Int), (0 : Int))).snd (P.len x.fst.snd.fst)) (P.cond (P.inb (P.get x.snd.snd y ((0 : Int), (0 : Int))).snd (P.len x.fst.snd.fst)) (P.cond (P.ile ((0 : Int)) (P.get x.fst.snd.fst (P.get x.snd.snd y ((0 : Int), (0 : Int))).snd ((0 : Int)))) (P.cond (P.inb (P.get x.snd.snd y ((0 : Int), (0 : Int))).snd (P.len x.fst.snd.fst)) (P.cond (P.ieq (P.get x.fst.snd.fst (P.get x.snd.snd y ((0 : Int), (0 : Int))).snd ((0 : Int))) x.snd.fst.snd) (some (Sum.inr (Sum.inr true))) (some (Sum.inl (P.wrap IntKind.i64 (P.add y ((1 : Int))))))) none) (some (Sum.inl (P.wrap IntKind.i64 (P.add y ((1 : Int))))))) none) (some (Sum.inl (P.wrap IntKind.i64 (P.add y ((1 : Int))))))) (some (Sum.inl (P.wrap IntKind.i64 (P.add y ((1 : Int))))))) (some (Sum.inl (P.wrap IntKind.i64 (P.add y ((1 : Int))))))) (P.cond (P.ieq (P.get x.snd.snd y ((0 : Int), (0 : Int))).fst ((5 : Int))) (P.cond (P.ieq x.snd.fst.fst ((4 : Int))) (P.cond (P.ile ((0 : Int)) (P.get x.snd.snd y ((0 : Int), (0 : Int))).snd) (P.cond (P.ilt (P.get x.snd.snd y ((0 : Int), (0 : Int))).snd (P.len x.fst.snd.snd)) (P.cond (P.inb (P.get x.snd.snd y ((0 : Int), (0 : Int))).snd (P.len x.fst.snd.snd)) (P.bind (P.iter k (fun (y_1 : Int) => P.cond (P.ilt y_1 (P.len (P.get x.fst.snd.snd (P.get x.snd.snd y ((0 : Int), (0 : Int))).snd []))) (P.cond (P.inb y_1 (P.len (P.get x.fst.snd.snd (P.get x.snd.snd y ((0 : Int), (0 : Int))).snd []))) (P.cond (P.ieq (P.get (P.get x.fst.snd.snd (P.get x.snd.snd y ((0 : Int), (0 : Int))).snd []) y_1 ((0 : Int))) x.snd.fst.snd) (some (Sum.inr (Sum.inr (Sum.inr (Sum.inr true))))) (some (Sum.inl (P.wrap IntKind.i64 (P.add y_1 ((1 : Int))))))) none) (some (Sum.inr (Sum.inl PUnit.unit)))) ((0 : Int))) (P.either (fun (z : PUnit) => some (Sum.inl (P.wrap IntKind.i64 (P.add y ((1 : Int)))))) fun (r : Int ⊕ PUnit ⊕ Bool) => some r)) none) (some (Sum.inl (P.wrap IntKind.i64 (P.add y ((1 : Int))))))) (some (Sum.inl (P.wrap IntKind.i64 (P.add y ((1 : Int))))))) (some (Sum.inl (P.wrap IntKind.i64 (P.add y ((1 : Int))))))) (P.cond (P.ieq (P.get x.snd.snd y ((0 : Int), (0 : Int))).fst ((6 : Int))) (some (Sum.inr (Sum.inr true))) (some (Sum.inl (P.wrap IntKind.i64 (P.add y ((1 : Int))))))))))))) none) (some (Sum.inr (Sum.inl PUnit.unit)))) ((0 : Int))) (P.either (fun (z : PUnit) => some false) fun (r : Bool) => some r)
theorem ref21_Value_eq (k : Nat) (x : (Ty.D (.pair T_api_Frame (.pair T_api_Val (.slice T_api_Atom))))) : evFn (EN k []) 6 Try.f31 [(2, ⟨[.var 7 (.d (.int .i64))], [], (some (0, []))⟩), (22, ⟨[.var 10 (.d (.int .i64))], [], (some (3, []))⟩)] (.pair T_api_Frame (.pair T_api_Val (.slice T_api_Atom))) .bool x = ref21_Value k x := by kernel_rfl
theorem ref21_Value_spec (k : Nat) : SpecOk Try.prog GG 31 ⟨(.pair T_api_Frame (.pair T_api_Val (.slice T_api_Atom))), .bool, ref21_Value k⟩ :=
  fn_spec (envOk (E := EN k []) tabOk (.nil) codesOk mixedOk (fun _ _ _ _ => trivial) (hmp := mapsOk)) f31_at (fun x => (ref21_Value_eq k x).symm)
noncomputable def ref07_Get : (k : Nat) → (Ty.D (.pair T_api_Shape .str)) → Option (Ty.D (.pair T_api_Field .bool)) := fun (k : Nat) (x : (T_api_Shape.pair Ty.str).D) => P.bind (P.iter k (fun (y : Int) => P.cond (P.ilt y (P.len x.fst.fst)) (P.cond (P.inb y (P.len x.fst.fst)) (P.cond (P.seq (P.get x.fst.fst y ((ByteArray.mk #[]), false, [])).fst x.snd) (P.cond (P.inb y (P.len x.fst.fst)) (some (Sum.inr (Sum.inr (P.get x.fst.fst y ((ByteArray.mk #[]), false, []), true)))) none) (some (Sum.inl (P.wrap IntKind.i64 (P.add y ((1 : Int))))))) none) (some (Sum.inr (Sum.inl PUnit.unit)))) ((0 : Int))) (P.either (fun (z : PUnit) => some (((ByteArray.mk #[]), false, []), false)) fun (r : (ByteArray × Bool × List (Int × Int)) × Bool) => some r)
theorem ref07_Get_eq (k : Nat) (x : (Ty.D (.pair T_api_Shape .str))) : evFn (EN k []) 6 Try.f91 [(2, ⟨[.var 6 (.d (.int .i64))], [4], (some (0, []))⟩)] (.pair T_api_Shape .str) (.pair T_api_Field .bool) x = ref07_Get k x := by kernel_rfl
theorem ref07_Get_spec (k : Nat) : SpecOk Try.prog GG 91 ⟨(.pair T_api_Shape .str), (.pair T_api_Field .bool), ref07_Get k⟩ :=
  fn_spec (envOk (E := EN k []) tabOk (.nil) codesOk mixedOk (fun _ _ _ _ => trivial) (hmp := mapsOk)) f91_at (fun x => (ref07_Get_eq k x).symm)
noncomputable def ref21_own : (k : Nat) → (Ty.D (.pair T_api_Obj .str)) → Option (Ty.D .bool) := fun (k : Nat) (x : (T_api_Obj.pair Ty.str).D) => P.bind (P.iter k (fun (y : Int) => P.cond (P.ilt y (P.len x.fst.fst)) (P.cond (P.inb y (P.len x.fst.fst)) (P.cond (P.seq (P.get x.fst.fst y ((ByteArray.mk #[]), (0 : Int), (0 : Int))).fst x.snd) (some (Sum.inr (Sum.inr true))) (some (Sum.inl (P.wrap IntKind.i64 (P.add y ((1 : Int))))))) none) (some (Sum.inr (Sum.inl PUnit.unit)))) ((0 : Int))) (P.either (fun (z : PUnit) => some false) fun (r : Bool) => some r)
theorem ref21_own_eq (k : Nat) (x : (Ty.D (.pair T_api_Obj .str))) : evFn (EN k []) 6 Try.f92 [(2, ⟨[.var 5 (.d (.int .i64))], [], (some (0, []))⟩)] (.pair T_api_Obj .str) .bool x = ref21_own k x := by kernel_rfl
theorem ref21_own_spec (k : Nat) : SpecOk Try.prog GG 92 ⟨(.pair T_api_Obj .str), .bool, ref21_own k⟩ :=
  fn_spec (envOk (E := EN k []) tabOk (.nil) codesOk mixedOk (fun _ _ _ _ => trivial) (hmp := mapsOk)) f92_at (fun x => (ref21_own_eq k x).symm)
noncomputable def ref21_Object : (k : Nat) → (Ty.D (.pair T_api_Frame (.pair (.slice T_api_Obj) (.pair (.int .i64) T_api_Shape)))) → Option (Ty.D .bool) := fun (k : Nat) (x : (T_api_Frame.pair (T_api_Obj.slice.pair ((Ty.int IntKind.i64).pair T_api_Shape))).D) => P.cond (P.ilt x.snd.snd.fst ((0 : Int))) (some false) (P.cond (P.ile (P.len x.snd.fst) x.snd.snd.fst) (some false) (P.bind (P.iter k (fun (y : Int) => P.cond (P.inb x.snd.snd.fst (P.len x.snd.fst)) (P.cond (P.ilt y (P.len (P.get x.snd.fst x.snd.snd.fst ([], (0 : Int), (0 : Int))).fst)) (P.cond (P.inb x.snd.snd.fst (P.len x.snd.fst)) (P.cond (P.inb y (P.len (P.get x.snd.fst x.snd.snd.fst ([], (0 : Int), (0 : Int))).fst)) (P.bind (ref07_Get k (x.snd.snd.snd, (P.get (P.get x.snd.fst x.snd.snd.fst ([], (0 : Int), (0 : Int))).fst y ((ByteArray.mk #[]), (0 : Int), (0 : Int))).fst)) fun (r : (ByteArray × Bool × List (Int × Int)) × Bool) => P.cond (P.not r.snd) (some (Sum.inr (Sum.inr false))) (P.cond (P.inb x.snd.snd.fst (P.len x.snd.fst)) (P.cond (P.inb y (P.len (P.get x.snd.fst x.snd.snd.fst ([], (0 : Int), (0 : Int))).fst)) (P.bind (ref21_Value k (x.fst, (P.get (P.get x.snd.fst x.snd.snd.fst ([], (0 : Int), (0 : Int))).fst y ((ByteArray.mk #[]), (0 : Int), (0 : Int))).snd, r.fst.snd.snd)) fun (r : Bool) => P.cond (P.not r) (some (Sum.inr (Sum.inr false))) (some (Sum.inl (P.wrap IntKind.i64 (P.add y ((1 : Int))))))) none) none)) none) none) (some (Sum.inr (Sum.inl PUnit.unit)))) none) ((0 : Int))) (P.either (fun (z : PUnit) => P.bind (P.iter k (fun (y : Int) => P.cond (P.ilt y (P.len x.snd.snd.snd.fst)) (P.cond (P.inb y (P.len x.snd.snd.snd.fst)) (P.cond (P.get x.snd.snd.snd.fst y ((ByteArray.mk #[]), false, [])).snd.fst (P.cond (P.inb x.snd.snd.fst (P.len x.snd.fst)) (P.cond (P.inb y (P.len x.snd.snd.snd.fst)) (P.bind (ref21_own k (P.get x.snd.fst x.snd.snd.fst ([], (0 : Int), (0 : Int)), (P.get x.snd.snd.snd.fst y ((ByteArray.mk #[]), false, [])).fst)) fun (r : Bool) => P.cond (P.not r) (some (Sum.inr (Sum.inr false))) (some (Sum.inl (P.wrap IntKind.i64 (P.add y ((1 : Int))))))) none) none) (some (Sum.inl (P.wrap IntKind.i64 (P.add y ((1 : Int))))))) none) (some (Sum.inr (Sum.inl PUnit.unit)))) ((0 : Int))) (P.either (fun (z : PUnit) => P.cond (P.inb x.snd.snd.fst (P.len x.snd.fst)) (P.bind (ref21_Value k (x.fst, (P.get x.snd.fst x.snd.snd.fst ([], (0 : Int), (0 : Int))).snd, x.snd.snd.snd.snd)) fun (r : Bool) => some r) none) fun (r : Bool) => some r)) fun (r : Bool) => some r)))
theorem ref21_Object_eq (k : Nat) (x : (Ty.D (.pair T_api_Frame (.pair (.slice T_api_Obj) (.pair (.int .i64) T_api_Shape))))) : evFn (EN k [(31, ⟨(.pair T_api_Frame (.pair T_api_Val (.slice T_api_Atom))), .bool, ref21_Value k⟩), (91, ⟨(.pair T_api_Shape .str), (.pair T_api_Field .bool), ref07_Get k⟩), (92, ⟨(.pair T_api_Obj .str), .bool, ref21_own k⟩)]) 6 Try.f29 [(4, ⟨[.var 9 (.d (.int .i64))], [], (some (0, []))⟩), (10, ⟨[.var 12 (.d (.int .i64))], [], (some (2, []))⟩)] (.pair T_api_Frame (.pair (.slice T_api_Obj) (.pair (.int .i64) T_api_Shape))) .bool x = ref21_Object k x := by kernel_rfl
theorem ref21_Object_spec (k : Nat) : SpecOk Try.prog GG 29 ⟨(.pair T_api_Frame (.pair (.slice T_api_Obj) (.pair (.int .i64) T_api_Shape))), .bool, ref21_Object k⟩ :=
  fn_spec (envOk (E := EN k [(31, ⟨(.pair T_api_Frame (.pair T_api_Val (.slice T_api_Atom))), .bool, ref21_Value k⟩), (91, ⟨(.pair T_api_Shape .str), (.pair T_api_Field .bool), ref07_Get k⟩), (92, ⟨(.pair T_api_Obj .str), .bool, ref21_own k⟩)]) tabOk (.cons (ref21_Value_spec k) f31_at f31_ok <| .cons (ref07_Get_spec k) f91_at f91_ok <| .cons (ref21_own_spec k) f92_at f92_ok <| .nil) codesOk mixedOk (fun _ _ _ _ => trivial) (hmp := mapsOk)) f29_at (fun x => (ref21_Object_eq k x).symm)
noncomputable def ref21_Var : (k : Nat) → (Ty.D (.pair T_api_Frame .str)) → Option (Ty.D T_api_Val) := fun (k : Nat) (x : (T_api_Frame.pair Ty.str).D) => P.bind (P.iter k (fun (y : Int) => P.cond (P.ilt y (P.len x.fst.fst)) (P.cond (P.inb y (P.len x.fst.fst)) (P.cond (P.seq (P.get x.fst.fst y ((ByteArray.mk #[]), (0 : Int), (0 : Int))).fst x.snd) (P.cond (P.inb y (P.len x.fst.fst)) (some (Sum.inr (Sum.inr (P.get x.fst.fst y ((ByteArray.mk #[]), (0 : Int), (0 : Int))).snd))) none) (some (Sum.inl (P.wrap IntKind.i64 (P.add y ((1 : Int))))))) none) (some (Sum.inr (Sum.inl PUnit.unit)))) ((0 : Int))) (P.either (fun (z : PUnit) => some ((0 : Int), (0 : Int))) fun (r : Int × Int) => some r)
theorem ref21_Var_eq (k : Nat) (x : (Ty.D (.pair T_api_Frame .str))) : evFn (EN k []) 6 Try.f47 [(2, ⟨[.var 5 (.d (.int .i64))], [4], (some (0, []))⟩)] (.pair T_api_Frame .str) T_api_Val x = ref21_Var k x := by kernel_rfl
theorem ref21_Var_spec (k : Nat) : SpecOk Try.prog GG 47 ⟨(.pair T_api_Frame .str), T_api_Val, ref21_Var k⟩ :=
  fn_spec (envOk (E := EN k []) tabOk (.nil) codesOk mixedOk (fun _ _ _ _ => trivial) (hmp := mapsOk)) f47_at (fun x => (ref21_Var_eq k x).symm)
noncomputable def ref08_Var : (k : Nat) → (Ty.D (.pair T_api_State .str)) → Option (Ty.D (.slice T_api_Atom)) := fun (k : Nat) (x : (T_api_State.pair Ty.str).D) => P.bind (P.iter k (fun (y : Int) => P.cond (P.ilt y (P.len x.fst.snd.fst)) (P.cond (P.inb y (P.len x.fst.snd.fst)) (P.cond (P.seq (P.get x.fst.snd.fst y ((ByteArray.mk #[]), [])).fst x.snd) (P.cond (P.inb y (P.len x.fst.snd.fst)) (some (Sum.inr (Sum.inr (P.get x.fst.snd.fst y ((ByteArray.mk #[]), [])).snd))) none) (some (Sum.inl (P.wrap IntKind.i64 (P.add y ((1 : Int))))))) none) (some (Sum.inr (Sum.inl PUnit.unit)))) ((0 : Int))) (P.either (fun (z : PUnit) => P.bind (ref06_Null k PUnit.unit) fun (r : List (Int × Int)) => some r) fun (r : List (Int × Int)) => some r)
theorem ref08_Var_eq (k : Nat) (x : (Ty.D (.pair T_api_State .str))) : evFn (EN k [(62, ⟨.unit, (.slice T_api_Atom), ref06_Null k⟩)]) 6 Try.f49 [(2, ⟨[.var 5 (.d (.int .i64))], [], (some (0, []))⟩)] (.pair T_api_State .str) (.slice T_api_Atom) x = ref08_Var k x := by kernel_rfl
theorem ref08_Var_spec (k : Nat) : SpecOk Try.prog GG 49 ⟨(.pair T_api_State .str), (.slice T_api_Atom), ref08_Var k⟩ :=
  fn_spec (envOk (E := EN k [(62, ⟨.unit, (.slice T_api_Atom), ref06_Null k⟩)]) tabOk (.cons (ref06_Null_spec k) f62_at f62_ok <| .nil) codesOk mixedOk (fun _ _ _ _ => trivial) (hmp := mapsOk)) f49_at (fun x => (ref08_Var_eq k x).symm)
noncomputable def ref08_Loc : (k : Nat) → (Ty.D (.pair T_api_State T_api_Atom)) → Option (Ty.D (.pair T_api_Shape .bool)) := fun (k : Nat) (x : (T_api_State.pair T_api_Atom).D) => P.bind (P.iter k (fun (y : Int) => P.cond (P.ilt y (P.len x.fst.snd.snd)) (P.cond (P.inb y (P.len x.fst.snd.snd)) (P.cond (P.and (P.ieq (P.get x.fst.snd.snd y (((0 : Int), (0 : Int)), [], [])).fst.fst x.snd.fst) (P.ieq (P.get x.fst.snd.snd y (((0 : Int), (0 : Int)), [], [])).fst.snd x.snd.snd)) (P.cond (P.inb y (P.len x.fst.snd.snd)) (some (Sum.inr (Sum.inr ((P.get x.fst.snd.snd y (((0 : Int), (0 : Int)), [], [])).snd, true)))) none) (some (Sum.inl (P.wrap IntKind.i64 (P.add y ((1 : Int))))))) none) (some (Sum.inr (Sum.inl PUnit.unit)))) ((0 : Int))) (P.either (fun (z : PUnit) => some (([], []), false)) fun (r : (List (ByteArray × Bool × List (Int × Int)) × List (Int × Int)) × Bool) => some r)
theorem ref08_Loc_eq (k : Nat) (x : (Ty.D (.pair T_api_State T_api_Atom))) : evFn (EN k []) 6 Try.f99 [(2, ⟨[.var 6 (.d (.int .i64))], [4], (some (0, []))⟩)] (.pair T_api_State T_api_Atom) (.pair T_api_Shape .bool) x = ref08_Loc k x := by kernel_rfl
theorem ref08_Loc_spec (k : Nat) : SpecOk Try.prog GG 99 ⟨(.pair T_api_State T_api_Atom), (.pair T_api_Shape .bool), ref08_Loc k⟩ :=
  fn_spec (envOk (E := EN k []) tabOk (.nil) codesOk mixedOk (fun _ _ _ _ => trivial) (hmp := mapsOk)) f99_at (fun x => (ref08_Loc_eq k x).symm)
noncomputable def ref21_State : (k : Nat) → (Ty.D (.pair T_api_Frame (.pair (.slice T_api_Obj) T_api_State))) → Option (Ty.D .bool) := fun (k : Nat) (x : (T_api_Frame.pair (T_api_Obj.slice.pair T_api_State)).D) => P.cond x.snd.snd.fst (some false) (P.bind (P.iter k (fun (y : Int) => P.cond (P.ilt y (P.len x.fst.fst)) (P.cond (P.inb y (P.len x.fst.fst)) (P.bind (ref21_Var k (x.fst, (P.get x.fst.fst y ((ByteArray.mk #[]), (0 : Int), (0 : Int))).fst)) fun (r : Int × Int) => P.bind (ref08_Var k (x.snd.snd, (P.get x.fst.fst y ((ByteArray.mk #[]), (0 : Int), (0 : Int))).fst)) fun (r_1 : List (Int × Int)) => P.bind (ref21_Value k (x.fst, r, r_1)) fun (r : Bool) => P.cond (P.not r) (some (Sum.inr (Sum.inr false))) (some (Sum.inl (P.wrap IntKind.i64 (P.add y ((1 : Int))))))) none) (some (Sum.inr (Sum.inl PUnit.unit)))) ((0 : Int))) (P.either (fun (z : PUnit) => P.bind (P.iter k (fun (y : Int) => P.cond (P.ilt y (P.len x.snd.snd.snd.fst)) (P.cond (P.inb y (P.len x.snd.snd.snd.fst)) (P.bind (ref21_Var k (x.fst, (P.get x.snd.snd.snd.fst y ((ByteArray.mk #[]), [])).fst)) fun (r : Int × Int) => P.bind (ref08_Var k (x.snd.snd, (P.get x.snd.snd.snd.fst y ((ByteArray.mk #[]), [])).fst)) fun (r_1 : List (Int × Int)) => P.bind (ref21_Value k (x.fst, r, r_1)) fun (r : Bool) => P.cond (P.not r) (some (Sum.inr (Sum.inr false))) (some (Sum.inl (P.wrap IntKind.i64 (P.add y ((1 : Int))))))) none) (some (Sum.inr (Sum.inl PUnit.unit)))) ((0 : Int))) (P.either (fun (z : PUnit) => P.bind (P.iter k (fun (y : Int) => P.cond (P.ilt y (P.len x.fst.snd.fst)) (P.cond (P.inb y (P.len x.fst.snd.fst)) (P.cond (P.not (P.ieq (P.get x.fst.snd.fst y ((0 : Int))) ((-1 : Int)))) (P.bind (ref08_Loc k (x.snd.snd, (4 : Int), y)) fun (r : (List (ByteArray × Bool × List (Int × Int)) × List (Int × Int)) × Bool) => P.cond (P.not r.snd) (some (Sum.inr (Sum.inr false))) (P.cond (P.inb y (P.len x.fst.snd.fst)) (P.bind (ref21_Object k (x.fst, x.snd.fst, P.get x.fst.snd.fst y ((0 : Int)), r.fst)) fun (r : Bool) => P.cond (P.not r) (some (Sum.inr (Sum.inr false))) (some (Sum.inl (P.wrap IntKind.i64 (P.add y ((1 : Int))))))) none)) (some (Sum.inl (P.wrap IntKind.i64 (P.add y ((1 : Int))))))) none) (some (Sum.inr (Sum.inl PUnit.unit)))) ((0 : Int))) (P.either (fun (z : PUnit) => P.bind (P.iter k (fun (y : Int) => P.cond (P.ilt y (P.len x.fst.snd.snd)) (P.bind (P.iter k (fun (y_1 : Int) => P.cond (P.inb y (P.len x.fst.snd.snd)) (P.cond (P.ilt y_1 (P.len (P.get x.fst.snd.snd y []))) (P.bind (ref08_Loc k (x.snd.snd, (5 : Int), y)) fun (r : (List (ByteArray × Bool × List (Int × Int)) × List (Int × Int)) × Bool) => P.cond (P.not r.snd) (some (Sum.inr (Sum.inr (Sum.inr (Sum.inr false))))) (P.cond (P.inb y (P.len x.fst.snd.snd)) (P.cond (P.inb y_1 (P.len (P.get x.fst.snd.snd y []))) (P.bind (ref21_Object k (x.fst, x.snd.fst, P.get (P.get x.fst.snd.snd y []) y_1 ((0 : Int)), r.fst)) fun (r : Bool) => P.cond (P.not r) (some (Sum.inr (Sum.inr (Sum.inr (Sum.inr false))))) (some (Sum.inl (P.wrap IntKind.i64 (P.add y_1 ((1 : Int))))))) none) none)) (some (Sum.inr (Sum.inl PUnit.unit)))) none) ((0 : Int))) (P.either (fun (z : PUnit) => some (Sum.inl (P.wrap IntKind.i64 (P.add y ((1 : Int)))))) fun (r : Int ⊕ PUnit ⊕ Bool) => some r)) (some (Sum.inr (Sum.inl PUnit.unit)))) ((0 : Int))) (P.either (fun (z : PUnit) => some true) fun (r : Bool) => some r)) fun (r : Bool) => some r)) fun (r : Bool) => some r)) fun (r : Bool) => some r))
theorem ref21_State_eq (k : Nat) (x : (Ty.D (.pair T_api_Frame (.pair (.slice T_api_Obj) T_api_State)))) : evFn (EN k [(29, ⟨(.pair T_api_Frame (.pair (.slice T_api_Obj) (.pair (.int .i64) T_api_Shape))), .bool, ref21_Object k⟩), (31, ⟨(.pair T_api_Frame (.pair T_api_Val (.slice T_api_Atom))), .bool, ref21_Value k⟩), (47, ⟨(.pair T_api_Frame .str), T_api_Val, ref21_Var k⟩), (49, ⟨(.pair T_api_State .str), (.slice T_api_Atom), ref08_Var k⟩), (99, ⟨(.pair T_api_State T_api_Atom), (.pair T_api_Shape .bool), ref08_Loc k⟩)]) 6 Try.f33 [(4, ⟨[.var 7 (.d (.int .i64))], [], (some (0, []))⟩), (10, ⟨[.var 9 (.d (.int .i64))], [], (some (2, []))⟩), (16, ⟨[.var 11 (.d (.int .i64))], [], (some (4, []))⟩), (23, ⟨[.var 14 (.d (.int .i64))], [], (some (6, []))⟩), (26, ⟨[.var 15 (.d (.int .i64))], [], (some (8, []))⟩)] (.pair T_api_Frame (.pair (.slice T_api_Obj) T_api_State)) .bool x = ref21_State k x := by kernel_rfl
theorem ref21_State_spec (k : Nat) : SpecOk Try.prog GG 33 ⟨(.pair T_api_Frame (.pair (.slice T_api_Obj) T_api_State)), .bool, ref21_State k⟩ :=
  fn_spec (envOk (E := EN k [(29, ⟨(.pair T_api_Frame (.pair (.slice T_api_Obj) (.pair (.int .i64) T_api_Shape))), .bool, ref21_Object k⟩), (31, ⟨(.pair T_api_Frame (.pair T_api_Val (.slice T_api_Atom))), .bool, ref21_Value k⟩), (47, ⟨(.pair T_api_Frame .str), T_api_Val, ref21_Var k⟩), (49, ⟨(.pair T_api_State .str), (.slice T_api_Atom), ref08_Var k⟩), (99, ⟨(.pair T_api_State T_api_Atom), (.pair T_api_Shape .bool), ref08_Loc k⟩)]) tabOk (.cons (ref21_Object_spec k) f29_at f29_ok <| .cons (ref21_Value_spec k) f31_at f31_ok <| .cons (ref21_Var_spec k) f47_at f47_ok <| .cons (ref08_Var_spec k) f49_at f49_ok <| .cons (ref08_Loc_spec k) f99_at f99_ok <| .nil) codesOk mixedOk (fun _ _ _ _ => trivial) (hmp := mapsOk)) f33_at (fun x => (ref21_State_eq k x).symm)
noncomputable def ref19_Right : (k : Nat) → (Ty.D (.pair (.slice T_api_Obj) T_api_Val)) → Option (Ty.D .bool) := fun (k : Nat) (x : (T_api_Obj.slice.pair T_api_Val).D) => P.cond (P.ieq x.snd.fst ((0 : Int))) (some (P.ieq x.snd.snd ((0 : Int)))) (P.cond (P.ieq x.snd.fst ((1 : Int))) (P.cond (P.ieq x.snd.snd ((0 : Int))) (some true) (some (P.ieq x.snd.snd ((1 : Int))))) (P.cond (P.ieq x.snd.fst ((2 : Int))) (some true) (P.cond (P.ieq x.snd.fst ((3 : Int))) (some (P.ile ((0 : Int)) x.snd.snd)) (P.cond (P.ieq x.snd.fst ((4 : Int))) (P.cond (P.ile ((0 : Int)) x.snd.snd) (some (P.ilt x.snd.snd (P.len x.fst))) (some false)) (some false)))))
theorem ref19_Right_eq (k : Nat) (x : (Ty.D (.pair (.slice T_api_Obj) T_api_Val))) : evFn (EN k []) 6 Try.f42 [] (.pair (.slice T_api_Obj) T_api_Val) .bool x = ref19_Right k x := by kernel_rfl
theorem ref19_Right_spec (k : Nat) : SpecOk Try.prog GG 42 ⟨(.pair (.slice T_api_Obj) T_api_Val), .bool, ref19_Right k⟩ :=
  fn_spec (envOk (E := EN k []) tabOk (.nil) codesOk mixedOk (fun _ _ _ _ => trivial) (hmp := mapsOk)) f42_at (fun x => (ref19_Right_eq k x).symm)
noncomputable def ref19_May : (k : Nat) → (Ty.D (.slice T_api_Obj)) → Option (Ty.D .bool) := fun (k : Nat) (x : T_api_Obj.slice.D) => P.bind (P.iter k (fun (y : Int) => P.cond (P.ilt y (P.len x)) (P.cond (P.inb y (P.len x)) (P.bind (P.iter k (fun (y_1 : Int) => P.cond (P.ilt y_1 (P.len (P.get x y ([], (0 : Int), (0 : Int))).fst)) (P.cond (P.inb y_1 (P.len (P.get x y ([], (0 : Int), (0 : Int))).fst)) (P.bind (ref19_Right k (x, (P.get (P.get x y ([], (0 : Int), (0 : Int))).fst y_1 ((ByteArray.mk #[]), (0 : Int), (0 : Int))).snd)) fun (r : Bool) => P.cond (P.not r) (some (Sum.inr (Sum.inr (Sum.inr (Sum.inr false))))) (P.cond (P.ilt ((0 : Int)) y_1) (P.cond (P.inb (P.wrap IntKind.i64 (P.sub y_1 ((1 : Int)))) (P.len (P.get x y ([], (0 : Int), (0 : Int))).fst)) (P.cond (P.inb y_1 (P.len (P.get x y ([], (0 : Int), (0 : Int))).fst)) (P.cond (P.not (P.slt (P.get (P.get x y ([], (0 : Int), (0 : Int))).fst (P.wrap IntKind.i64 (P.sub y_1 ((1 : Int)))) ((ByteArray.mk #[]), (0 : Int), (0 : Int))).fst (P.get (P.get x y ([], (0 : Int), (0 : Int))).fst y_1 ((ByteArray.mk #[]), (0 : Int), (0 : Int))).fst)) (some (Sum.inr (Sum.inr (Sum.inr (Sum.inr false))))) (some (Sum.inl (P.wrap IntKind.i64 (P.add y_1 ((1 : Int))))))) none) none) (some (Sum.inl (P.wrap IntKind.i64 (P.add y_1 ((1 : Int)))))))) none) (some (Sum.inr (Sum.inl PUnit.unit)))) ((0 : Int))) (P.either (fun (z : PUnit) => P.cond (P.not (P.and (P.ieq (P.get x y ([], (0 : Int), (0 : Int))).snd.fst ((0 : Int))) (P.ieq (P.get x y ([], (0 : Int), (0 : Int))).snd.snd ((0 : Int))))) (P.cond (P.not (P.ieq (P.get x y ([], (0 : Int), (0 : Int))).snd.fst ((4 : Int)))) (some (Sum.inr (Sum.inr false))) (P.cond (P.ilt (P.get x y ([], (0 : Int), (0 : Int))).snd.snd ((0 : Int))) (some (Sum.inr (Sum.inr false))) (P.cond (P.ile y (P.get x y ([], (0 : Int), (0 : Int))).snd.snd) (some (Sum.inr (Sum.inr false))) (some (Sum.inl (P.wrap IntKind.i64 (P.add y ((1 : Int))))))))) (some (Sum.inl (P.wrap IntKind.i64 (P.add y ((1 : Int))))))) fun (r : Int ⊕ PUnit ⊕ Bool) => some r)) none) (some (Sum.inr (Sum.inl PUnit.unit)))) ((0 : Int))) (P.either (fun (z : PUnit) => some true) fun (r : Bool) => some r)
theorem ref19_May_eq (k : Nat) (x : (Ty.D (.slice T_api_Obj))) : evFn (EN k [(42, ⟨(.pair (.slice T_api_Obj) T_api_Val), .bool, ref19_Right k⟩)]) 6 Try.f24 [(2, ⟨[.var 3 (.d (.int .i64))], [], (some (0, []))⟩), (6, ⟨[.var 5 (.d (.int .i64))], [], (some (2, []))⟩)] (.slice T_api_Obj) .bool x = ref19_May k x := by kernel_rfl
theorem ref19_May_spec (k : Nat) : SpecOk Try.prog GG 24 ⟨(.slice T_api_Obj), .bool, ref19_May k⟩ :=
  fn_spec (envOk (E := EN k [(42, ⟨(.pair (.slice T_api_Obj) T_api_Val), .bool, ref19_Right k⟩)]) tabOk (.cons (ref19_Right_spec k) f42_at f42_ok <| .nil) codesOk mixedOk (fun _ _ _ _ => trivial) (hmp := mapsOk)) f24_at (fun x => (ref19_May_eq k x).symm)
noncomputable def ref21_May : (k : Nat) → (Ty.D (.pair T_api_Frame (.slice T_api_Obj))) → Option (Ty.D .bool) := fun (k : Nat) (x : (T_api_Frame.pair T_api_Obj.slice).D) => P.bind (ref19_May k x.snd) fun (r : Bool) => P.cond (P.not r) (some false) (P.cond (P.not (P.ieq (P.len x.fst.snd.fst) (P.len x.fst.snd.snd))) (some false) (P.bind (P.iter k (fun (y : Int) => P.cond (P.ilt y (P.len x.fst.fst)) (P.cond (P.inb y (P.len x.fst.fst)) (P.bind (ref19_Right k (x.snd, (P.get x.fst.fst y ((ByteArray.mk #[]), (0 : Int), (0 : Int))).snd)) fun (r : Bool) => P.cond (P.not r) (some (Sum.inr (Sum.inr false))) (P.cond (P.ilt ((0 : Int)) y) (P.cond (P.inb (P.wrap IntKind.i64 (P.sub y ((1 : Int)))) (P.len x.fst.fst)) (P.cond (P.inb y (P.len x.fst.fst)) (P.cond (P.not (P.slt (P.get x.fst.fst (P.wrap IntKind.i64 (P.sub y ((1 : Int)))) ((ByteArray.mk #[]), (0 : Int), (0 : Int))).fst (P.get x.fst.fst y ((ByteArray.mk #[]), (0 : Int), (0 : Int))).fst)) (some (Sum.inr (Sum.inr false))) (some (Sum.inl (P.wrap IntKind.i64 (P.add y ((1 : Int))))))) none) none) (some (Sum.inl (P.wrap IntKind.i64 (P.add y ((1 : Int)))))))) none) (some (Sum.inr (Sum.inl PUnit.unit)))) ((0 : Int))) (P.either (fun (z : PUnit) => P.bind (P.iter k (fun (y : List Int × Int) => P.cond (P.ilt y.snd (P.len x.fst.snd.fst)) (P.cond (P.inb y.snd (P.len x.fst.snd.fst)) (P.cond (P.not (P.ieq (P.get x.fst.snd.fst y.snd ((0 : Int))) ((-1 : Int)))) (P.cond (P.inb y.snd (P.len x.fst.snd.fst)) (P.cond (P.room (P.add (P.len y.fst) (P.len [P.get x.fst.snd.fst y.snd ((0 : Int))])) 8) (P.cond (P.inb y.snd (P.len x.fst.snd.snd)) (P.cond (P.room (P.add (P.len (P.app y.fst [P.get x.fst.snd.fst y.snd ((0 : Int))])) (P.len (P.get x.fst.snd.snd y.snd []))) 8) (some (Sum.inl (P.app (P.app y.fst [P.get x.fst.snd.fst y.snd ((0 : Int))]) (P.get x.fst.snd.snd y.snd []), P.wrap IntKind.i64 (P.add y.snd ((1 : Int)))))) none) none) none) none) (P.cond (P.inb y.snd (P.len x.fst.snd.snd)) (P.cond (P.room (P.add (P.len y.fst) (P.len (P.get x.fst.snd.snd y.snd []))) 8) (some (Sum.inl (P.app y.fst (P.get x.fst.snd.snd y.snd []), P.wrap IntKind.i64 (P.add y.snd ((1 : Int)))))) none) none)) none) (some (Sum.inr (Sum.inl y.fst)))) ([], (0 : Int))) (P.either (fun (z : List Int) => P.bind (P.iter k (fun (y : Int) => P.cond (P.ilt y (P.len z)) (P.cond (P.inb y (P.len z)) (P.cond (P.ilt (P.get z y ((0 : Int))) ((0 : Int))) (some (Sum.inr (Sum.inr false))) (P.cond (P.inb y (P.len z)) (P.cond (P.ile (P.len x.snd) (P.get z y ((0 : Int)))) (some (Sum.inr (Sum.inr false))) (P.bind (P.iter k (fun (y_1 : Int) => P.cond (P.ilt y_1 y) (P.cond (P.inb y_1 (P.len z)) (P.cond (P.inb y (P.len z)) (P.cond (P.ieq (P.get z y_1 ((0 : Int))) (P.get z y ((0 : Int)))) (some (Sum.inr (Sum.inr (Sum.inr (Sum.inr false))))) (some (Sum.inl (P.wrap IntKind.i64 (P.add y_1 ((1 : Int))))))) none) none) (some (Sum.inr (Sum.inl PUnit.unit)))) ((0 : Int))) (P.either (fun (z : PUnit) => some (Sum.inl (P.wrap IntKind.i64 (P.add y ((1 : Int)))))) fun (r : Int ⊕ PUnit ⊕ Bool) => some r))) none)) none) (some (Sum.inr (Sum.inl PUnit.unit)))) ((0 : Int))) (P.either (fun (z : PUnit) => some true) fun (r : Bool) => some r)) fun (r : Bool) => some r)) fun (r : Bool) => some r)))
theorem ref21_May_eq (k : Nat) (x : (Ty.D (.pair T_api_Frame (.slice T_api_Obj)))) : evFn (EN k [(24, ⟨(.slice T_api_Obj), .bool, ref19_May k⟩), (42, ⟨(.pair (.slice T_api_Obj) T_api_Val), .bool, ref19_Right k⟩)]) 6 Try.f35 [(4, ⟨[.var 5 (.d (.int .i64))], [], (some (0, []))⟩), (10, ⟨[.var 6 (.o (.int .i64)), .var 7 (.d (.int .i64))], [], (some (2, [.var 6 (.o (.int .i64))]))⟩), (16, ⟨[.var 8 (.d (.int .i64))], [], (some (4, []))⟩), (21, ⟨[.var 9 (.d (.int .i64))], [], (some (6, []))⟩)] (.pair T_api_Frame (.slice T_api_Obj)) .bool x = ref21_May k x := by kernel_rfl
theorem ref21_May_spec (k : Nat) : SpecOk Try.prog GG 35 ⟨(.pair T_api_Frame (.slice T_api_Obj)), .bool, ref21_May k⟩ :=
  fn_spec (envOk (E := EN k [(24, ⟨(.slice T_api_Obj), .bool, ref19_May k⟩), (42, ⟨(.pair (.slice T_api_Obj) T_api_Val), .bool, ref19_Right k⟩)]) tabOk (.cons (ref19_May_spec k) f24_at f24_ok <| .cons (ref19_Right_spec k) f42_at f42_ok <| .nil) codesOk mixedOk (fun _ _ _ _ => trivial) (hmp := mapsOk)) f35_at (fun x => (ref21_May_eq k x).symm)
noncomputable def ref19_Props : (k : Nat) → (Ty.D (.pair (.slice T_api_Prop) (.slice T_api_Prop))) → Option (Ty.D .bool) := fun (k : Nat) (x : (T_api_Prop.slice.pair T_api_Prop.slice).D) => P.cond (P.not (P.ieq (P.len x.fst) (P.len x.snd))) (some false) (P.bind (P.iter k (fun (y : Int) => P.cond (P.ilt y (P.len x.fst)) (P.cond (P.inb y (P.len x.fst)) (P.cond (P.inb y (P.len x.snd)) (P.cond (P.not (P.and (P.seq (P.get x.fst y ((ByteArray.mk #[]), (0 : Int), (0 : Int))).fst (P.get x.snd y ((ByteArray.mk #[]), (0 : Int), (0 : Int))).fst) (P.and (P.ieq (P.get x.fst y ((ByteArray.mk #[]), (0 : Int), (0 : Int))).snd.fst (P.get x.snd y ((ByteArray.mk #[]), (0 : Int), (0 : Int))).snd.fst) (P.ieq (P.get x.fst y ((ByteArray.mk #[]), (0 : Int), (0 : Int))).snd.snd (P.get x.snd y ((ByteArray.mk #[]), (0 : Int), (0 : Int))).snd.snd)))) (some (Sum.inr (Sum.inr false))) (some (Sum.inl (P.wrap IntKind.i64 (P.add y ((1 : Int))))))) none) none) (some (Sum.inr (Sum.inl PUnit.unit)))) ((0 : Int))) (P.either (fun (z : PUnit) => some true) fun (r : Bool) => some r))
theorem ref19_Props_eq (k : Nat) (x : (Ty.D (.pair (.slice T_api_Prop) (.slice T_api_Prop)))) : evFn (EN k []) 6 Try.f103 [(4, ⟨[.var 5 (.d (.int .i64))], [], (some (0, []))⟩)] (.pair (.slice T_api_Prop) (.slice T_api_Prop)) .bool x = ref19_Props k x := by kernel_rfl
theorem ref19_Props_spec (k : Nat) : SpecOk Try.prog GG 103 ⟨(.pair (.slice T_api_Prop) (.slice T_api_Prop)), .bool, ref19_Props k⟩ :=
  fn_spec (envOk (E := EN k []) tabOk (.nil) codesOk mixedOk (fun _ _ _ _ => trivial) (hmp := mapsOk)) f103_at (fun x => (ref19_Props_eq k x).symm)
noncomputable def ref21_ints : (k : Nat) → (Ty.D (.pair (.slice (.int .i64)) (.slice (.int .i64)))) → Option (Ty.D .bool) := fun (k : Nat) (x : ((Ty.int IntKind.i64).slice.pair (Ty.int IntKind.i64).slice).D) => P.cond (P.not (P.ieq (P.len x.fst) (P.len x.snd))) (some false) (P.bind (P.iter k (fun (y : Int) => P.cond (P.ilt y (P.len x.fst)) (P.cond (P.inb y (P.len x.fst)) (P.cond (P.inb y (P.len x.snd)) (P.cond (P.not (P.ieq (P.get x.fst y ((0 : Int))) (P.get x.snd y ((0 : Int))))) (some (Sum.inr (Sum.inr false))) (some (Sum.inl (P.wrap IntKind.i64 (P.add y ((1 : Int))))))) none) none) (some (Sum.inr (Sum.inl PUnit.unit)))) ((0 : Int))) (P.either (fun (z : PUnit) => some true) fun (r : Bool) => some r))
theorem ref21_ints_eq (k : Nat) (x : (Ty.D (.pair (.slice (.int .i64)) (.slice (.int .i64))))) : evFn (EN k []) 6 Try.f104 [(4, ⟨[.var 5 (.d (.int .i64))], [], (some (0, []))⟩)] (.pair (.slice (.int .i64)) (.slice (.int .i64))) .bool x = ref21_ints k x := by kernel_rfl
theorem ref21_ints_spec (k : Nat) : SpecOk Try.prog GG 104 ⟨(.pair (.slice (.int .i64)) (.slice (.int .i64))), .bool, ref21_ints k⟩ :=
  fn_spec (envOk (E := EN k []) tabOk (.nil) codesOk mixedOk (fun _ _ _ _ => trivial) (hmp := mapsOk)) f104_at (fun x => (ref21_ints_eq k x).symm)
noncomputable def ref21_Same : (k : Nat) → (Ty.D (.pair T_api_Frame T_api_Frame)) → Option (Ty.D .bool) := fun (k : Nat) (x : (T_api_Frame.pair T_api_Frame).D) => P.bind (ref19_Props k (x.fst.fst, x.snd.fst)) fun (r : Bool) => P.cond (P.not r) (some false) (P.bind (ref21_ints k (x.fst.snd.fst, x.snd.snd.fst)) fun (r : Bool) => P.cond (P.not r) (some false) (P.cond (P.not (P.ieq (P.len x.fst.snd.snd) (P.len x.snd.snd.snd))) (some false) (P.bind (P.iter k (fun (y : Int) => P.cond (P.ilt y (P.len x.fst.snd.snd)) (P.cond (P.inb y (P.len x.fst.snd.snd)) (P.cond (P.inb y (P.len x.snd.snd.snd)) (P.bind (ref21_ints k (P.get x.fst.snd.snd y [], P.get x.snd.snd.snd y [])) fun (r : Bool) => P.cond (P.not r) (some (Sum.inr (Sum.inr false))) (some (Sum.inl (P.wrap IntKind.i64 (P.add y ((1 : Int))))))) none) none) (some (Sum.inr (Sum.inl PUnit.unit)))) ((0 : Int))) (P.either (fun (z : PUnit) => some true) fun (r : Bool) => some r))))
theorem ref21_Same_eq (k : Nat) (x : (Ty.D (.pair T_api_Frame T_api_Frame))) : evFn (EN k [(103, ⟨(.pair (.slice T_api_Prop) (.slice T_api_Prop)), .bool, ref19_Props k⟩), (104, ⟨(.pair (.slice (.int .i64)) (.slice (.int .i64))), .bool, ref21_ints k⟩)]) 6 Try.f36 [(4, ⟨[.var 5 (.d (.int .i64))], [], (some (0, []))⟩)] (.pair T_api_Frame T_api_Frame) .bool x = ref21_Same k x := by kernel_rfl
theorem ref21_Same_spec (k : Nat) : SpecOk Try.prog GG 36 ⟨(.pair T_api_Frame T_api_Frame), .bool, ref21_Same k⟩ :=
  fn_spec (envOk (E := EN k [(103, ⟨(.pair (.slice T_api_Prop) (.slice T_api_Prop)), .bool, ref19_Props k⟩), (104, ⟨(.pair (.slice (.int .i64)) (.slice (.int .i64))), .bool, ref21_ints k⟩)]) tabOk (.cons (ref19_Props_spec k) f103_at f103_ok <| .cons (ref21_ints_spec k) f104_at f104_ok <| .nil) codesOk mixedOk (fun _ _ _ _ => trivial) (hmp := mapsOk)) f36_at (fun x => (ref21_Same_eq k x).symm)
noncomputable def ref21_Fresh : (k : Nat) → (Ty.D (.pair T_api_Frame (.pair (.int .i64) (.int .i64)))) → Option (Ty.D T_api_Frame) := fun (k : Nat) (x : (T_api_Frame.pair ((Ty.int IntKind.i64).pair (Ty.int IntKind.i64))).D) => P.cond (P.ilt x.snd.fst ((0 : Int))) (some x.fst) (P.cond (P.ilt ((2000 : Int)) x.snd.fst) (some x.fst) (P.bind (P.iter k (fun (y : Int × List (ByteArray × Int × Int) × List Int × List (List Int)) => P.cond (P.ilt y.fst (P.len x.fst.snd.fst)) (P.cond (P.ilt y.fst (P.len x.fst.snd.fst)) (P.cond (P.inb y.fst (P.len x.fst.snd.fst)) (P.cond (P.ieq y.fst x.snd.fst) (P.cond (P.room (P.add (P.len y.snd.snd.fst) (P.len [x.snd.snd])) 8) (some (Sum.inl (P.wrap IntKind.i64 (P.add y.fst ((1 : Int))), y.snd.fst, P.app y.snd.snd.fst [x.snd.snd], y.snd.snd.snd))) none) (P.cond (P.room (P.add (P.len y.snd.snd.fst) (P.len [P.get x.fst.snd.fst y.fst ((0 : Int))])) 8) (some (Sum.inl (P.wrap IntKind.i64 (P.add y.fst ((1 : Int))), y.snd.fst, P.app y.snd.snd.fst [P.get x.fst.snd.fst y.fst ((0 : Int))], y.snd.snd.snd))) none)) none) (P.cond (P.ieq y.fst x.snd.fst) (P.cond (P.room (P.add (P.len y.snd.snd.fst) (P.len [x.snd.snd])) 8) (some (Sum.inl (P.wrap IntKind.i64 (P.add y.fst ((1 : Int))), y.snd.fst, P.app y.snd.snd.fst [x.snd.snd], y.snd.snd.snd))) none) (P.cond (P.room (P.add (P.len y.snd.snd.fst) (P.len [(-1 : Int)])) 8) (some (Sum.inl (P.wrap IntKind.i64 (P.add y.fst ((1 : Int))), y.snd.fst, P.app y.snd.snd.fst [(-1 : Int)], y.snd.snd.snd))) none))) (P.cond (P.ile y.fst x.snd.fst) (P.cond (P.ilt y.fst (P.len x.fst.snd.fst)) (P.cond (P.inb y.fst (P.len x.fst.snd.fst)) (P.cond (P.ieq y.fst x.snd.fst) (P.cond (P.room (P.add (P.len y.snd.snd.fst) (P.len [x.snd.snd])) 8) (some (Sum.inl (P.wrap IntKind.i64 (P.add y.fst ((1 : Int))), y.snd.fst, P.app y.snd.snd.fst [x.snd.snd], y.snd.snd.snd))) none) (P.cond (P.room (P.add (P.len y.snd.snd.fst) (P.len [P.get x.fst.snd.fst y.fst ((0 : Int))])) 8) (some (Sum.inl (P.wrap IntKind.i64 (P.add y.fst ((1 : Int))), y.snd.fst, P.app y.snd.snd.fst [P.get x.fst.snd.fst y.fst ((0 : Int))], y.snd.snd.snd))) none)) none) (P.cond (P.ieq y.fst x.snd.fst) (P.cond (P.room (P.add (P.len y.snd.snd.fst) (P.len [x.snd.snd])) 8) (some (Sum.inl (P.wrap IntKind.i64 (P.add y.fst ((1 : Int))), y.snd.fst, P.app y.snd.snd.fst [x.snd.snd], y.snd.snd.snd))) none) (P.cond (P.room (P.add (P.len y.snd.snd.fst) (P.len [(-1 : Int)])) 8) (some (Sum.inl (P.wrap IntKind.i64 (P.add y.fst ((1 : Int))), y.snd.fst, P.app y.snd.snd.fst [(-1 : Int)], y.snd.snd.snd))) none))) (some (Sum.inr (Sum.inl (y.snd.fst, y.snd.snd.fst, y.snd.snd.snd)))))) ((0 : Int), x.fst.fst, [], [])) (P.either (fun (z : List (ByteArray × Int × Int) × List Int × List (List Int)) => P.bind (P.iter k (fun (y : Int × List (ByteArray × Int × Int) × List Int × List (List Int)) => P.cond (P.ilt y.fst (P.len x.fst.snd.snd)) (P.cond (P.ilt y.fst (P.len x.fst.snd.snd)) (P.cond (P.inb y.fst (P.len x.fst.snd.snd)) (P.cond (P.room (P.add (P.len (P.nil Int)) (P.len (P.get x.fst.snd.snd y.fst []))) 8) (P.cond (P.ieq y.fst x.snd.fst) (P.cond (P.ilt y.fst (P.len x.fst.snd.fst)) (P.cond (P.inb y.fst (P.len x.fst.snd.fst)) (P.cond (P.not (P.ieq (P.get x.fst.snd.fst y.fst ((0 : Int))) ((-1 : Int)))) (P.cond (P.inb y.fst (P.len x.fst.snd.fst)) (P.cond (P.room (P.add (P.len (P.app [] (P.get x.fst.snd.snd y.fst []))) (P.len [P.get x.fst.snd.fst y.fst ((0 : Int))])) 8) (P.cond (P.room (P.add (P.len y.snd.snd.snd) (P.len [P.app (P.app [] (P.get x.fst.snd.snd y.fst [])) [P.get x.fst.snd.fst y.fst ((0 : Int))]])) 24) (some (Sum.inl (P.wrap IntKind.i64 (P.add y.fst ((1 : Int))), y.snd.fst, y.snd.snd.fst, P.app y.snd.snd.snd [P.app (P.app [] (P.get x.fst.snd.snd y.fst [])) [P.get x.fst.snd.fst y.fst ((0 : Int))]]))) none) none) none) (P.cond (P.room (P.add (P.len y.snd.snd.snd) (P.len [P.app [] (P.get x.fst.snd.snd y.fst [])])) 24) (some (Sum.inl (P.wrap IntKind.i64 (P.add y.fst ((1 : Int))), y.snd.fst, y.snd.snd.fst, P.app y.snd.snd.snd [P.app [] (P.get x.fst.snd.snd y.fst [])]))) none)) none) (P.cond (P.room (P.add (P.len y.snd.snd.snd) (P.len [P.app [] (P.get x.fst.snd.snd y.fst [])])) 24) (some (Sum.inl (P.wrap IntKind.i64 (P.add y.fst ((1 : Int))), y.snd.fst, y.snd.snd.fst, P.app y.snd.snd.snd [P.app [] (P.get x.fst.snd.snd y.fst [])]))) none)) (P.cond (P.room (P.add (P.len y.snd.snd.snd) (P.len [P.app [] (P.get x.fst.snd.snd y.fst [])])) 24) (some (Sum.inl (P.wrap IntKind.i64 (P.add y.fst ((1 : Int))), y.snd.fst, y.snd.snd.fst, P.app y.snd.snd.snd [P.app [] (P.get x.fst.snd.snd y.fst [])]))) none)) none) none) (P.cond (P.ieq y.fst x.snd.fst) (P.cond (P.ilt y.fst (P.len x.fst.snd.fst)) (P.cond (P.inb y.fst (P.len x.fst.snd.fst)) (P.cond (P.not (P.ieq (P.get x.fst.snd.fst y.fst ((0 : Int))) ((-1 : Int)))) (P.cond (P.inb y.fst (P.len x.fst.snd.fst)) (P.cond (P.room (P.add (P.len (P.nil Int)) (P.len [P.get x.fst.snd.fst y.fst ((0 : Int))])) 8) (P.cond (P.room (P.add (P.len y.snd.snd.snd) (P.len [P.app [] [P.get x.fst.snd.fst y.fst ((0 : Int))]])) 24) (some (Sum.inl (P.wrap IntKind.i64 (P.add y.fst ((1 : Int))), y.snd.fst, y.snd.snd.fst, P.app y.snd.snd.snd [P.app [] [P.get x.fst.snd.fst y.fst ((0 : Int))]]))) none) none) none) (P.cond (P.room (P.add (P.len y.snd.snd.snd) (P.len [([] : List Int)])) 24) (some (Sum.inl (P.wrap IntKind.i64 (P.add y.fst ((1 : Int))), y.snd.fst, y.snd.snd.fst, P.app y.snd.snd.snd [[]]))) none)) none) (P.cond (P.room (P.add (P.len y.snd.snd.snd) (P.len [([] : List Int)])) 24) (some (Sum.inl (P.wrap IntKind.i64 (P.add y.fst ((1 : Int))), y.snd.fst, y.snd.snd.fst, P.app y.snd.snd.snd [[]]))) none)) (P.cond (P.room (P.add (P.len y.snd.snd.snd) (P.len [([] : List Int)])) 24) (some (Sum.inl (P.wrap IntKind.i64 (P.add y.fst ((1 : Int))), y.snd.fst, y.snd.snd.fst, P.app y.snd.snd.snd [[]]))) none))) (P.cond (P.ile y.fst x.snd.fst) (P.cond (P.ilt y.fst (P.len x.fst.snd.snd)) (P.cond (P.inb y.fst (P.len x.fst.snd.snd)) (P.cond (P.room (P.add (P.len (P.nil Int)) (P.len (P.get x.fst.snd.snd y.fst []))) 8) (P.cond (P.ieq y.fst x.snd.fst) (P.cond (P.ilt y.fst (P.len x.fst.snd.fst)) (P.cond (P.inb y.fst (P.len x.fst.snd.fst)) (P.cond (P.not (P.ieq (P.get x.fst.snd.fst y.fst ((0 : Int))) ((-1 : Int)))) (P.cond (P.inb y.fst (P.len x.fst.snd.fst)) (P.cond (P.room (P.add (P.len (P.app [] (P.get x.fst.snd.snd y.fst []))) (P.len [P.get x.fst.snd.fst y.fst ((0 : Int))])) 8) (P.cond (P.room (P.add (P.len y.snd.snd.snd) (P.len [P.app (P.app [] (P.get x.fst.snd.snd y.fst [])) [P.get x.fst.snd.fst y.fst ((0 : Int))]])) 24) (some (Sum.inl (P.wrap IntKind.i64 (P.add y.fst ((1 : Int))), y.snd.fst, y.snd.snd.fst, P.app y.snd.snd.snd [P.app (P.app [] (P.get x.fst.snd.snd y.fst [])) [P.get x.fst.snd.fst y.fst ((0 : Int))]]))) none) none) none) (P.cond (P.room (P.add (P.len y.snd.snd.snd) (P.len [P.app [] (P.get x.fst.snd.snd y.fst [])])) 24) (some (Sum.inl (P.wrap IntKind.i64 (P.add y.fst ((1 : Int))), y.snd.fst, y.snd.snd.fst, P.app y.snd.snd.snd [P.app [] (P.get x.fst.snd.snd y.fst [])]))) none)) none) (P.cond (P.room (P.add (P.len y.snd.snd.snd) (P.len [P.app [] (P.get x.fst.snd.snd y.fst [])])) 24) (some (Sum.inl (P.wrap IntKind.i64 (P.add y.fst ((1 : Int))), y.snd.fst, y.snd.snd.fst, P.app y.snd.snd.snd [P.app [] (P.get x.fst.snd.snd y.fst [])]))) none)) (P.cond (P.room (P.add (P.len y.snd.snd.snd) (P.len [P.app [] (P.get x.fst.snd.snd y.fst [])])) 24) (some (Sum.inl (P.wrap IntKind.i64 (P.add y.fst ((1 : Int))), y.snd.fst, y.snd.snd.fst, P.app y.snd.snd.snd [P.app [] (P.get x.fst.snd.snd y.fst [])]))) none)) none) none) (P.cond (P.ieq y.fst x.snd.fst) (P.cond (P.ilt y.fst (P.len x.fst.snd.fst)) (P.cond (P.inb y.fst (P.len x.fst.snd.fst)) (P.cond (P.not (P.ieq (P.get x.fst.snd.fst y.fst ((0 : Int))) ((-1 : Int)))) (P.cond (P.inb y.fst (P.len x.fst.snd.fst)) (P.cond (P.room (P.add (P.len (P.nil Int)) (P.len [P.get x.fst.snd.fst y.fst ((0 : Int))])) 8) (P.cond (P.room (P.add (P.len y.snd.snd.snd) (P.len [P.app [] [P.get x.fst.snd.fst y.fst ((0 : Int))]])) 24) (some (Sum.inl (P.wrap IntKind.i64 (P.add y.fst ((1 : Int))), y.snd.fst, y.snd.snd.fst, P.app y.snd.snd.snd [P.app [] [P.get x.fst.snd.fst y.fst ((0 : Int))]]))) none) none) none) (P.cond (P.room (P.add (P.len y.snd.snd.snd) (P.len [([] : List Int)])) 24) (some (Sum.inl (P.wrap IntKind.i64 (P.add y.fst ((1 : Int))), y.snd.fst, y.snd.snd.fst, P.app y.snd.snd.snd [[]]))) none)) none) (P.cond (P.room (P.add (P.len y.snd.snd.snd) (P.len [([] : List Int)])) 24) (some (Sum.inl (P.wrap IntKind.i64 (P.add y.fst ((1 : Int))), y.snd.fst, y.snd.snd.fst, P.app y.snd.snd.snd [[]]))) none)) (P.cond (P.room (P.add (P.len y.snd.snd.snd) (P.len [([] : List Int)])) 24) (some (Sum.inl (P.wrap IntKind.i64 (P.add y.fst ((1 : Int))), y.snd.fst, y.snd.snd.fst, P.app y.snd.snd.snd [[]]))) none))) (some (Sum.inr (Sum.inl (y.snd.fst, y.snd.snd.fst, y.snd.snd.snd)))))) ((0 : Int), z.fst, z.snd.fst, z.snd.snd)) (P.either (fun (z : List (ByteArray × Int × Int) × List Int × List (List Int)) => some (z.fst, z.snd.fst, z.snd.snd)) fun (r : List (ByteArray × Int × Int) × List Int × List (List Int)) => some r)) fun (r : List (ByteArray × Int × Int) × List Int × List (List Int)) => some r)))
theorem ref21_Fresh_eq (k : Nat) (x : (Ty.D (.pair T_api_Frame (.pair (.int .i64) (.int .i64))))) : evFn (EN k []) 6 Try.f38 [(5, ⟨[.var 8 (.d (.int .i64)), .box 7 [] (.s (.p (.d (.slice (.st (.pair .str (.st (.pair (.int .i64) (.int .i64))))))) (.p (.o (.int .i64)) (.o (.slice (.int .i64))))))], [], (some (0, [.box 7 [] (.s (.p (.d (.slice (.st (.pair .str (.st (.pair (.int .i64) (.int .i64))))))) (.p (.o (.int .i64)) (.o (.slice (.int .i64))))))]))⟩), (14, ⟨[.var 10 (.d (.int .i64)), .box 7 [] (.s (.p (.d (.slice (.st (.pair .str (.st (.pair (.int .i64) (.int .i64))))))) (.p (.o (.int .i64)) (.o (.slice (.int .i64))))))], [], (some (2, [.box 7 [] (.s (.p (.d (.slice (.st (.pair .str (.st (.pair (.int .i64) (.int .i64))))))) (.p (.o (.int .i64)) (.o (.slice (.int .i64))))))]))⟩)] (.pair T_api_Frame (.pair (.int .i64) (.int .i64))) T_api_Frame x = ref21_Fresh k x := by kernel_rfl
theorem ref21_Fresh_spec (k : Nat) : SpecOk Try.prog GG 38 ⟨(.pair T_api_Frame (.pair (.int .i64) (.int .i64))), T_api_Frame, ref21_Fresh k⟩ :=
  fn_spec (envOk (E := EN k []) tabOk (.nil) codesOk mixedOk (fun _ _ _ _ => trivial) (hmp := mapsOk)) f38_at (fun x => (ref21_Fresh_eq k x).symm)
noncomputable def law21_ConformTells : (k : Nat) → (Ty.D (.pair T_proteanlaw21_All (.pair T_api_Val (.int .i64)))) → Option (Ty.D .bool) := fun (k : Nat) (x : (T_proteanlaw21_All.pair (T_api_Val.pair (Ty.int IntKind.i64))).D) => P.bind (law21_small k x.fst) fun (r : Bool) => P.cond (P.not r) (P.bind (law21_fixed k PUnit.unit) fun (r : Bool) => some r) (P.bind (P.iter k (fun (y : Int) => P.cond (P.ilt y (P.len x.fst.snd.snd.snd.snd)) (P.cond (P.inb y (P.len x.fst.snd.snd.snd.snd)) (P.bind (conform_Object k (x.fst.fst, x.fst.snd.fst, x.snd.fst.snd, (P.get x.fst.snd.snd.snd.snd y (((0 : Int), (0 : Int)), [], [])).snd)) fun (r : Bool) => P.bind (ref21_Object k (x.fst.fst, x.fst.snd.fst, x.snd.fst.snd, (P.get x.fst.snd.snd.snd.snd y (((0 : Int), (0 : Int)), [], [])).snd)) fun (r_1 : Bool) => P.cond (P.not (P.beq r r_1)) (some (Sum.inr (Sum.inr false))) (P.bind (conform_Value k (x.fst.fst, x.snd.fst, (P.get x.fst.snd.snd.snd.snd y (((0 : Int), (0 : Int)), [], [])).snd.snd)) fun (r : Bool) => P.bind (ref21_Value k (x.fst.fst, x.snd.fst, (P.get x.fst.snd.snd.snd.snd y (((0 : Int), (0 : Int)), [], [])).snd.snd)) fun (r_2 : Bool) => P.cond (P.not (P.beq r r_2)) (some (Sum.inr (Sum.inr false))) (some (Sum.inl (P.wrap IntKind.i64 (P.add y ((1 : Int)))))))) none) (some (Sum.inr (Sum.inl PUnit.unit)))) ((0 : Int))) (P.either (fun (z : PUnit) => P.bind (law21_fixed k PUnit.unit) fun (r : Bool) => P.cond r (P.bind (conform_State k (x.fst.fst, x.fst.snd.fst, x.fst.snd.snd)) fun (r : Bool) => P.bind (ref21_State k (x.fst.fst, x.fst.snd.fst, x.fst.snd.snd)) fun (r_1 : Bool) => P.cond (P.beq r r_1) (P.bind (conform_May k (x.fst.fst, x.fst.snd.fst)) fun (r : Bool) => P.bind (ref21_May k (x.fst.fst, x.fst.snd.fst)) fun (r_2 : Bool) => P.cond (P.beq r r_2) (P.bind (conform_Fresh k (x.fst.fst, x.snd.snd, x.snd.fst.snd)) fun (r : List (ByteArray × Int × Int) × List Int × List (List Int)) => P.bind (ref21_Fresh k (x.fst.fst, x.snd.snd, x.snd.fst.snd)) fun (r_3 : List (ByteArray × Int × Int) × List Int × List (List Int)) => P.bind (ref21_Same k (r, r_3)) fun (r : Bool) => some r) (some false)) (some false)) (some false)) fun (r : Bool) => some r))
theorem law21_ConformTells_eq (k : Nat) (x : (Ty.D (.pair T_proteanlaw21_All (.pair T_api_Val (.int .i64))))) : evFn (EN k [(26, ⟨T_proteanlaw21_All, .bool, law21_small k⟩), (27, ⟨.unit, .bool, law21_fixed k⟩), (28, ⟨(.pair T_api_Frame (.pair (.slice T_api_Obj) (.pair (.int .i64) T_api_Shape))), .bool, conform_Object k⟩), (29, ⟨(.pair T_api_Frame (.pair (.slice T_api_Obj) (.pair (.int .i64) T_api_Shape))), .bool, ref21_Object k⟩), (30, ⟨(.pair T_api_Frame (.pair T_api_Val (.slice T_api_Atom))), .bool, conform_Value k⟩), (31, ⟨(.pair T_api_Frame (.pair T_api_Val (.slice T_api_Atom))), .bool, ref21_Value k⟩), (32, ⟨(.pair T_api_Frame (.pair (.slice T_api_Obj) T_api_State)), .bool, conform_State k⟩), (33, ⟨(.pair T_api_Frame (.pair (.slice T_api_Obj) T_api_State)), .bool, ref21_State k⟩), (34, ⟨(.pair T_api_Frame (.slice T_api_Obj)), .bool, conform_May k⟩), (35, ⟨(.pair T_api_Frame (.slice T_api_Obj)), .bool, ref21_May k⟩), (36, ⟨(.pair T_api_Frame T_api_Frame), .bool, ref21_Same k⟩), (37, ⟨(.pair T_api_Frame (.pair (.int .i64) (.int .i64))), T_api_Frame, conform_Fresh k⟩), (38, ⟨(.pair T_api_Frame (.pair (.int .i64) (.int .i64))), T_api_Frame, ref21_Fresh k⟩)]) 6 Try.f7 [(4, ⟨[.var 7 (.d (.int .i64))], [], (some (0, []))⟩)] (.pair T_proteanlaw21_All (.pair T_api_Val (.int .i64))) .bool x = law21_ConformTells k x := by kernel_rfl
theorem law21_ConformTells_spec (k : Nat) : SpecOk Try.prog GG 7 ⟨(.pair T_proteanlaw21_All (.pair T_api_Val (.int .i64))), .bool, law21_ConformTells k⟩ :=
  fn_spec (envOk (E := EN k [(26, ⟨T_proteanlaw21_All, .bool, law21_small k⟩), (27, ⟨.unit, .bool, law21_fixed k⟩), (28, ⟨(.pair T_api_Frame (.pair (.slice T_api_Obj) (.pair (.int .i64) T_api_Shape))), .bool, conform_Object k⟩), (29, ⟨(.pair T_api_Frame (.pair (.slice T_api_Obj) (.pair (.int .i64) T_api_Shape))), .bool, ref21_Object k⟩), (30, ⟨(.pair T_api_Frame (.pair T_api_Val (.slice T_api_Atom))), .bool, conform_Value k⟩), (31, ⟨(.pair T_api_Frame (.pair T_api_Val (.slice T_api_Atom))), .bool, ref21_Value k⟩), (32, ⟨(.pair T_api_Frame (.pair (.slice T_api_Obj) T_api_State)), .bool, conform_State k⟩), (33, ⟨(.pair T_api_Frame (.pair (.slice T_api_Obj) T_api_State)), .bool, ref21_State k⟩), (34, ⟨(.pair T_api_Frame (.slice T_api_Obj)), .bool, conform_May k⟩), (35, ⟨(.pair T_api_Frame (.slice T_api_Obj)), .bool, ref21_May k⟩), (36, ⟨(.pair T_api_Frame T_api_Frame), .bool, ref21_Same k⟩), (37, ⟨(.pair T_api_Frame (.pair (.int .i64) (.int .i64))), T_api_Frame, conform_Fresh k⟩), (38, ⟨(.pair T_api_Frame (.pair (.int .i64) (.int .i64))), T_api_Frame, ref21_Fresh k⟩)]) tabOk (.cons (law21_small_spec k) f26_at f26_ok <| .cons (law21_fixed_spec k) f27_at f27_ok <| .cons (conform_Object_spec k) f28_at f28_ok <| .cons (ref21_Object_spec k) f29_at f29_ok <| .cons (conform_Value_spec k) f30_at f30_ok <| .cons (ref21_Value_spec k) f31_at f31_ok <| .cons (conform_State_spec k) f32_at f32_ok <| .cons (ref21_State_spec k) f33_at f33_ok <| .cons (conform_May_spec k) f34_at f34_ok <| .cons (ref21_May_spec k) f35_at f35_ok <| .cons (ref21_Same_spec k) f36_at f36_ok <| .cons (conform_Fresh_spec k) f37_at f37_ok <| .cons (ref21_Fresh_spec k) f38_at f38_ok <| .nil) codesOk mixedOk (fun _ _ _ _ => trivial) (hmp := mapsOk)) f7_at (fun x => (law21_ConformTells_eq k x).symm)
noncomputable def ref06_Same : (k : Nat) → (Ty.D (.pair (.slice T_api_Atom) (.slice T_api_Atom))) → Option (Ty.D .bool) := fun (k : Nat) (x : (T_api_Atom.slice.pair T_api_Atom.slice).D) => P.cond (P.not (P.ieq (P.len x.fst) (P.len x.snd))) (some false) (P.bind (P.iter k (fun (y : Int) => P.cond (P.ilt y (P.len x.fst)) (P.cond (P.inb y (P.len x.fst)) (P.cond (P.inb y (P.len x.snd)) (P.cond (P.not (P.and (P.ieq (P.get x.fst y ((0 : Int), (0 : Int))).fst (P.get x.snd y ((0 : Int), (0 : Int))).fst) (P.ieq (P.get x.fst y ((0 : Int), (0 : Int))).snd (P.get x.snd y ((0 : Int), (0 : Int))).snd))) (some (Sum.inr (Sum.inr false))) (some (Sum.inl (P.wrap IntKind.i64 (P.add y ((1 : Int))))))) none) none) (some (Sum.inr (Sum.inl PUnit.unit)))) ((0 : Int))) (P.either (fun (z : PUnit) => some true) fun (r : Bool) => some r))
noncomputable def ref06_Less : (k : Nat) → (Ty.D (.pair T_api_Atom T_api_Atom)) → Option (Ty.D .bool) := fun (k : Nat) (x : (T_api_Atom.pair T_api_Atom).D) => P.cond (P.ilt x.fst.fst x.snd.fst) (some true) (P.cond (P.ieq x.fst.fst x.snd.fst) (some (P.ilt x.fst.snd x.snd.snd)) (some false))
noncomputable def ref06_Has : (k : Nat) → (Ty.D (.pair (.slice T_api_Atom) T_api_Atom)) → Option (Ty.D .bool) := fun (k : Nat) (x : (T_api_Atom.slice.pair T_api_Atom).D) => P.bind (P.iter k (fun (y : Int) => P.cond (P.ilt y (P.len x.fst)) (P.cond (P.inb y (P.len x.fst)) (P.cond (P.and (P.ieq (P.get x.fst y ((0 : Int), (0 : Int))).fst x.snd.fst) (P.ieq (P.get x.fst y ((0 : Int), (0 : Int))).snd x.snd.snd)) (some (Sum.inr (Sum.inr true))) (some (Sum.inl (P.wrap IntKind.i64 (P.add y ((1 : Int))))))) none) (some (Sum.inr (Sum.inl PUnit.unit)))) ((0 : Int))) (P.either (fun (z : PUnit) => some false) fun (r : Bool) => some r)
noncomputable def ref06_Right : (k : Nat) → (Ty.D T_api_Atom) → Option (Ty.D .bool) := fun (k : Nat) (x : T_api_Atom.D) => P.cond (P.ile ((3 : Int)) x.fst) (P.cond (P.ile x.fst ((5 : Int))) (some (P.ile ((0 : Int)) x.snd)) (P.cond (P.ile ((0 : Int)) x.fst) (P.cond (P.ile x.fst ((6 : Int))) (some (P.ieq x.snd ((0 : Int)))) (some false)) (some false))) (P.cond (P.ile ((0 : Int)) x.fst) (P.cond (P.ile x.fst ((6 : Int))) (some (P.ieq x.snd ((0 : Int)))) (some false)) (some false))
noncomputable def ref06_add : (k : Nat) → (Ty.D (.pair (.slice T_api_Atom) T_api_Atom)) → Option (Ty.D (.slice T_api_Atom)) := fun (k : Nat) (x : (T_api_Atom.slice.pair T_api_Atom).D) => P.bind (ref06_Right k x.snd) fun (r : Bool) => P.cond (P.not r) (some x.fst) (P.bind (ref06_Has k (x.fst, x.snd)) fun (r : Bool) => P.cond r (some x.fst) (P.bind (P.iter k (fun (y : List (Int × Int) × Bool × Int) => P.cond (P.ilt y.snd.snd (P.len x.fst)) (P.cond (P.not y.snd.fst) (P.cond (P.inb y.snd.snd (P.len x.fst)) (P.bind (ref06_Less k (x.snd, P.get x.fst y.snd.snd ((0 : Int), (0 : Int)))) fun (r : Bool) => P.cond r (P.cond (P.room (P.add (P.len y.fst) (P.len [x.snd])) 16) (P.cond (P.inb y.snd.snd (P.len x.fst)) (P.cond (P.room (P.add (P.len (P.app y.fst [x.snd])) (P.len [P.get x.fst y.snd.snd ((0 : Int), (0 : Int))])) 16) (some (Sum.inl (P.app (P.app y.fst [x.snd]) [P.get x.fst y.snd.snd ((0 : Int), (0 : Int))], true, P.wrap IntKind.i64 (P.add y.snd.snd ((1 : Int)))))) none) none) none) (P.cond (P.inb y.snd.snd (P.len x.fst)) (P.cond (P.room (P.add (P.len y.fst) (P.len [P.get x.fst y.snd.snd ((0 : Int), (0 : Int))])) 16) (some (Sum.inl (P.app y.fst [P.get x.fst y.snd.snd ((0 : Int), (0 : Int))], y.snd.fst, P.wrap IntKind.i64 (P.add y.snd.snd ((1 : Int)))))) none) none)) none) (P.cond (P.inb y.snd.snd (P.len x.fst)) (P.cond (P.room (P.add (P.len y.fst) (P.len [P.get x.fst y.snd.snd ((0 : Int), (0 : Int))])) 16) (some (Sum.inl (P.app y.fst [P.get x.fst y.snd.snd ((0 : Int), (0 : Int))], y.snd.fst, P.wrap IntKind.i64 (P.add y.snd.snd ((1 : Int)))))) none) none)) (some (Sum.inr (Sum.inl (y.fst, y.snd.fst))))) ([], false, (0 : Int))) (P.either (fun (z : List (Int × Int) × Bool) => P.cond (P.not z.snd) (P.cond (P.room (P.add (P.len z.fst) (P.len [x.snd])) 16) (some (P.app z.fst [x.snd])) none) (some z.fst)) fun (r : List (Int × Int)) => some r)))
noncomputable def ref06_Norm : (k : Nat) → (Ty.D (.slice T_api_Atom)) → Option (Ty.D (.slice T_api_Atom)) := fun (k : Nat) (x : T_api_Atom.slice.D) => P.bind (P.iter k (fun (y : List (Int × Int) × Int) => P.cond (P.ilt y.snd (P.len x)) (P.cond (P.inb y.snd (P.len x)) (P.bind (ref06_add k (y.fst, P.get x y.snd ((0 : Int), (0 : Int)))) fun (r : List (Int × Int)) => some (Sum.inl (r, P.wrap IntKind.i64 (P.add y.snd ((1 : Int)))))) none) (some (Sum.inr (Sum.inl y.fst)))) ([], (0 : Int))) (P.either (fun (z : List (Int × Int)) => some z) fun (r : List (Int × Int)) => some r)
noncomputable def ref06_May : (k : Nat) → (Ty.D (.slice T_api_Atom)) → Option (Ty.D .bool) := fun (k : Nat) (x : T_api_Atom.slice.D) => P.bind (ref06_Norm k x) fun (r : List (Int × Int)) => P.bind (ref06_Same k (x, r)) fun (r : Bool) => some r
noncomputable def ref19_own : (k : Nat) → (Ty.D (.pair T_api_Obj .str)) → Option (Ty.D (.pair T_api_Val .bool)) := fun (k : Nat) (x : (T_api_Obj.pair Ty.str).D) => P.bind (P.iter k (fun (y : Int) => P.cond (P.ilt y (P.len x.fst.fst)) (P.cond (P.inb y (P.len x.fst.fst)) (P.cond (P.seq (P.get x.fst.fst y ((ByteArray.mk #[]), (0 : Int), (0 : Int))).fst x.snd) (P.cond (P.inb y (P.len x.fst.fst)) (some (Sum.inr (Sum.inr ((P.get x.fst.fst y ((ByteArray.mk #[]), (0 : Int), (0 : Int))).snd, true)))) none) (some (Sum.inl (P.wrap IntKind.i64 (P.add y ((1 : Int))))))) none) (some (Sum.inr (Sum.inl PUnit.unit)))) ((0 : Int))) (P.either (fun (z : PUnit) => some (((0 : Int), (0 : Int)), false)) fun (r : (Int × Int) × Bool) => some r)
noncomputable def ref19_Get : (k : Nat) → (Ty.D (.pair (.slice T_api_Obj) (.pair T_api_Val .str))) → Option (Ty.D (.pair T_api_Val .bool)) := fun (k : Nat) (x : (T_api_Obj.slice.pair (T_api_Val.pair Ty.str)).D) => P.bind (ref19_May k x.fst) fun (r : Bool) => P.cond (P.not r) (some (((0 : Int), (0 : Int)), false)) (P.bind (P.iter k (fun (y : Int × Int) => P.cond (P.ieq y.fst ((4 : Int))) (P.bind (ref19_Right k (x.fst, y)) fun (r : Bool) => P.cond r (P.cond (P.inb y.snd (P.len x.fst)) (P.bind (ref19_own k (P.get x.fst y.snd ([], (0 : Int), (0 : Int)), x.snd.snd)) fun (r : (Int × Int) × Bool) => P.cond r.snd (some (Sum.inr (Sum.inr (r.fst, true)))) (P.cond (P.inb y.snd (P.len x.fst)) (some (Sum.inl (P.get x.fst y.snd ([], (0 : Int), (0 : Int))).snd)) none)) none) (some (Sum.inr (Sum.inl PUnit.unit)))) (some (Sum.inr (Sum.inl PUnit.unit)))) x.snd.fst) (P.either (fun (z : PUnit) => some (((0 : Int), (0 : Int)), false)) fun (r : (Int × Int) × Bool) => some r))
end
section
open Go Go.PG Go.Proofs
set_option linter.all false
set_option maxRecDepth 1000000
set_option maxHeartbeats 4000000
end
section
namespace Go.PL
open Go.PG
theorem cond_eq {α : Type} (b : Bool) (x y : α) : P.cond b x y = if b = true then x else y := by cases b <;> rfl
theorem cond_true {α : Type} (x y : α) : P.cond true x y = x := rfl
theorem cond_false {α : Type} (x y : α) : P.cond false x y = y := rfl
theorem bind_some {α β : Type} (a : α) (f : α → Option β) : P.bind (some a) f = f a := rfl
theorem either_inl {α β γ : Type} (f : α → γ) (g : β → γ) (a : α) : P.either f g (.inl a) = f a := rfl
theorem either_inr {α β γ : Type} (f : α → γ) (g : β → γ) (b : β) : P.either f g (.inr b) = g b := rfl
section
variable {τ ρ : Type} {f : τ → Option (τ ⊕ ρ)}
theorem iter_succ (k : Nat) (x : τ) : P.iter (k + 1) f x = match f x with
    | none => none
    | some (.inl y) => P.iter k f y
    | some (.inr r) => some r := rfl
theorem iter_step {k : Nat} {x y : τ} (hk : 0 < k) (h : f x = some (.inl y)) : P.iter k f x = P.iter (k - 1) f y := by
  obtain ⟨k, rfl⟩ : ∃ m, k = m + 1 := ⟨k - 1, by omega⟩
  rw [iter_succ, h]; rfl
theorem iter_done {k : Nat} {x : τ} {r : ρ} (hk : 0 < k) (h : f x = some (.inr r)) : P.iter k f x = some r := by
  obtain ⟨k, rfl⟩ : ∃ m, k = m + 1 := ⟨k - 1, by omega⟩
  rw [iter_succ, h]
theorem iter_run (s : Nat → τ) (r : ρ) : ∀ (n i k : Nat), n < k → (∀ j, j < n → f (s (i + j)) = some (.inl (s (i + j + 1)))) → f (s (i + n)) = some (.inr r) → P.iter k f (s i) = some r := by
  intro n
  induction n with
  | zero => intro i k hk _ he; exact iter_done (by omega) (by simpa using he)
  | succ n ih =>
    intro i k hk hs he
    rw [iter_step (x := s i) (y := s (i + 1)) (by omega) (by simpa using hs 0 (by omega))]
    refine ih (i + 1) (k - 1) (by omega) (fun j hj => ?_) (by rw [show i + 1 + n = i + (n + 1) by omega]; exact he)
    have := hs (j + 1) (by omega)
    rw [show i + 1 + j = i + (j + 1) by omega]
    exact this
theorem iter_find {f : Int → Option (Int ⊕ ρ)} {n : Nat} {e : ρ} (g : Nat → Option ρ) (hs : ∀ i : Nat, i < n → f (i : Int) = some (match g i with
    | none => .inl ((i + 1 : Nat) : Int)
    | some r => .inr r)) (he : f (n : Int) = some (.inr e)) : ∀ (d i k : Nat), i + d = n → d < k → P.iter k f (i : Int) = some (((List.range' i d).findSome? g).getD e) := by
  intro d
  induction d with
  | zero =>
    intro i k hi hk
    obtain rfl : i = n := by omega
    exact iter_done (by omega) he
  | succ d ih =>
    intro i k hi hk
    have h := hs i (by omega)
    rw [List.range'_succ, List.findSome?_cons]
    cases q : g i with
    | none =>
      rw [q] at h
      simp only at h ⊢
      rw [iter_step (by omega) h]
      exact ih (i + 1) (k - 1) (by omega) (by omega)
    | some r =>
      rw [q] at h
      simp only at h
      rw [iter_done (by omega) h]
      rfl
theorem iter_find0 {f : Int → Option (Int ⊕ ρ)} {n : Nat} {e : ρ} (g : Nat → Option ρ) (k : Nat) (hs : ∀ i : Nat, i < n → f (i : Int) = some (match g i with
    | none => .inl ((i + 1 : Nat) : Int)
    | some r => .inr r)) (he : f (n : Int) = some (.inr e)) (hk : n < k) : P.iter k f 0 = some (((List.range n).findSome? g).getD e) := by
  have := iter_find g hs he n 0 k (by omega) hk
  rw [List.range_eq_range']
  exact this
theorem iter_all {f : Int → Option (Int ⊕ ρ)} {n : Nat} {e r : ρ} (p : Nat → Prop) [DecidablePred p] (k : Nat) (hs : ∀ i : Nat, i < n → f (i : Int) = some (if p i then .inl ((i + 1 : Nat) : Int) else .inr r)) (he : f (n : Int) = some (.inr e)) (hk : n < k) :
    P.iter k f 0 = some (if ∀ i, i < n → p i then e else r) := by
  rw [iter_find0 (n := n) (e := e) (fun i => if p i then none else some r) k (fun i hi => by rw [hs i hi]; by_cases h : p i <;> simp [h]) he hk]
  by_cases h : ∀ i, i < n → p i
  · rw [if_pos h]
    have : (List.range n).findSome? (fun i => if p i then none else some r) = none := by
      rw [List.findSome?_eq_none_iff]
      intro i hi
      simp [h i (List.mem_range.1 hi)]
    rw [this]; rfl
  · rw [if_neg h]
    have hh : ∃ i, i < n ∧ ¬ p i := by
      apply Classical.byContradiction
      intro q
      exact h fun i hi => Classical.byContradiction fun z => q ⟨i, hi, z⟩
    obtain ⟨i, hi, hp⟩ := hh
    have : ∃ y, (List.range n).findSome? (fun i => if p i then none else some r) = some y := by
      rw [← Option.isSome_iff_exists, List.findSome?_isSome_iff]
      exact ⟨i, List.mem_range.2 hi, by simp [hp]⟩
    obtain ⟨y, hy⟩ := this
    rw [hy]
    obtain ⟨j, _, hj⟩ := List.exists_of_findSome?_eq_some hy
    by_cases q : p j
    · simp [q] at hj
    · simp [q] at hj; simp [hj]
end
theorem ieq_iff {x y : Int} : P.ieq x y = true ↔ x = y := by simp [P.ieq]
theorem ieq_eq (x y : Int) : P.ieq x y = decide (x = y) := by rw [Bool.eq_iff_iff]; simp [P.ieq]
theorem ilt_iff {x y : Int} : P.ilt x y = true ↔ x < y := by simp [P.ilt]
theorem ile_iff {x y : Int} : P.ile x y = true ↔ x ≤ y := by simp [P.ile]
theorem inb_iff {i n : Int} : P.inb i n = true ↔ 0 ≤ i ∧ i < n := by simp [P.inb]
theorem wrap_i64 {x : Int} (h0 : -9223372036854775808 ≤ x) (h1 : x < 9223372036854775808) : P.wrap .i64 x = x := by
  show IntKind.i64.wrap x = x
  simp only [IntKind.wrap, IntKind.bits, IntKind.signed]
  simp
  omega
theorem wrap_succ {n : Nat} (h : n + 1 < 9223372036854775808) : P.wrap .i64 (P.add (n : Int) 1) = ((n + 1 : Nat) : Int) := by
  rw [wrap_i64 (by simp [P.add]; omega) (by simp [P.add]; omega)]; simp [P.add]
theorem wrap_pred {n : Nat} (h0 : 0 < n) (h : n < 9223372036854775808) : P.wrap .i64 (P.sub (n : Int) 1) = ((n - 1 : Nat) : Int) := by
  rw [wrap_i64 (by simp [P.sub]; omega) (by simp [P.sub]; omega)]; simp [P.sub]; omega
theorem not_iff {b : Bool} : P.not b = true ↔ ¬ b = true := by cases b <;> simp [P.not]
theorem and_iff {a b : Bool} : P.and a b = true ↔ a = true ∧ b = true := by simp [P.and]
theorem beq_iff {a b : Bool} : P.beq a b = true ↔ a = b := by simp [P.beq]
theorem room_iff {n : Int} {b : Nat} : P.room n b = true ↔ n.toNat * b ≤ 140737488355328 := by simp [P.room]
theorem room_nat {a b n : Nat} : P.room (P.add (a : Int) (b : Int)) n = true ↔ (a + b) * n ≤ 140737488355328 := by
  rw [room_iff]
  have : (P.add (a : Int) (b : Int)).toNat = a + b := by simp [P.add]; omega
  rw [this]
theorem get_nat {α : Type} (l : List α) (i : Nat) (d : α) : P.get l (i : Int) d = l.getD i d := by simp [P.get]
theorem len_eq {α : Type} (l : List α) : P.len l = (l.length : Int) := rfl
def ltS (a b : ByteArray) : Prop := a.data.toList < b.data.toList
instance (a b : ByteArray) : Decidable (ltS a b) := inferInstanceAs (Decidable (a.data.toList < b.data.toList))
theorem ba_ext {a b : ByteArray} (h : a.data.toList = b.data.toList) : a = b := by
  cases a; cases b; simp at h; simp [h]
theorem bytesLess_eq : ∀ (x y : List UInt8), Op.bytesLess x y = decide (x < y)
  | [], [] => by simp [Op.bytesLess]
  | _ :: _, [] => by simp [Op.bytesLess]
  | [], _ :: _ => by simp [Op.bytesLess]
  | a :: x, b :: y => by
    rw [Op.bytesLess, bytesLess_eq x y]
    simp only [List.cons_lt_cons_iff]
    by_cases h1 : a < b <;> by_cases h2 : a = b <;> by_cases h3 : x < y <;> simp [h1, h2, h3]
theorem slt_iff {a b : ByteArray} : P.slt a b = true ↔ ltS a b := by
  unfold P.slt ltS
  rw [bytesLess_eq, ByteArray.toList_eq, ByteArray.toList_eq]
  simp
theorem seq_iff {a b : ByteArray} : P.seq a b = true ↔ a = b := by
  unfold P.seq
  simp only [beq_iff_eq]
  exact ⟨ba_ext, fun h => by rw [h]⟩
theorem ltS_trans {a b c : ByteArray} (h1 : ltS a b) (h2 : ltS b c) : ltS a c := List.lt_trans h1 h2
end Go.PL
end
section
open Go Go.PG Go.PL
set_option linter.unusedVariables false
namespace Go.PL
end Go.PL
end
section
open Go Go.PG Go.PL
set_option linter.unusedVariables false
namespace Go.PL
abbrev At := Int × Int
abbrev dA : At := (0, 0)
def ltA (a b : At) : Prop := a.1 < b.1 ∨ (a.1 = b.1 ∧ a.2 < b.2)
instance (a b : At) : Decidable (ltA a b) := by unfold ltA; exact inferInstance
def RightA (a : At) : Prop := (3 ≤ a.1 ∧ a.1 ≤ 5 ∧ 0 ≤ a.2) ∨ ((a.1 = 0 ∨ a.1 = 1 ∨ a.1 = 2 ∨ a.1 = 6) ∧ a.2 = 0)
instance (a : At) : Decidable (RightA a) := by unfold RightA; exact inferInstance
def insA (x : At) : List At → List At
  | [] => [x]
  | y :: l => if ltA x y then x :: y :: l else y :: insA x l
def addA (l : List At) (x : At) : List At := if RightA x ∧ x ∉ l then insA x l else l
def norm (l : List At) : List At := l.foldl addA []
def K : Nat := 18446744073709551616
end Go.PL
end
section
open Go Go.PG Go.PL
set_option linter.unusedVariables false
namespace Go.PL
theorem getD_set_ne {l : List At} {i j : Nat} (h : i ≠ j) (x : At) : (l.set i x).getD j dA = l.getD j dA := by
  simp [List.getD_eq_getElem?_getD, List.getElem?_set_ne h]
theorem take_getD {l : List At} {j : Nat} (h : j < l.length) : l.take (j + 1) = l.take j ++ [l.getD j dA] := by
  rw [List.take_add_one, List.getElem?_eq_getElem h]
  simp [List.getD_eq_getElem?_getD, h]
end Go.PL
end
section
open Go Go.PG Go.PL
set_option linter.unusedVariables false
namespace Go.PL
theorem eqA_iff {a b : At} : P.and (P.ieq a.1 b.1) (P.ieq a.2 b.2) = true ↔ a = b := by
  rw [and_iff, ieq_iff, ieq_iff]
  exact ⟨fun h => Prod.ext h.1 h.2, fun h => by rw [h]; exact ⟨rfl, rfl⟩⟩
end Go.PL
end
section
open Go Go.PG Go.PL
set_option linter.unusedVariables false
namespace Go.PL
theorem insA_length (x : At) : ∀ l : List At, (insA x l).length = l.length + 1
  | [] => rfl
  | y :: l => by simp only [insA]; split <;> simp [insA_length x l]
theorem addA_length (l : List At) (x : At) : (addA l x).length ≤ l.length + 1 := by
  unfold addA; split
  · rw [insA_length]; exact Nat.le_refl _
  · omega
theorem fold_length : ∀ (l acc : List At), (l.foldl addA acc).length ≤ acc.length + l.length
  | [], acc => by simp
  | x :: l, acc => by
    have h1 := fold_length l (addA acc x)
    have h2 := addA_length acc x
    simp only [List.foldl_cons, List.length_cons]
    omega
theorem at_clone (k : Nat) (x : List At) (hx : x.length ≤ 8796093022100) : slCloneAtom k x = some x := by
  unfold slCloneAtom
  have hroom : P.room (P.add (P.len (P.nil (Int × Int))) (P.len x)) 16 = true := by
    rw [show P.len (P.nil (Int × Int)) = ((0 : Nat) : Int) from rfl, len_eq, room_nat]
    omega
  try dsimp only
  rw [hroom, cond_true, show P.app [] x = x from rfl]
  by_cases h0 : P.ilt ((0 : Int)) (P.len x) = true
  · rw [h0]; rfl
  · rw [Bool.eq_false_iff.2 h0, cond_false]
    have : x = [] := by
      rw [ilt_iff, len_eq] at h0
      exact List.length_eq_zero_iff.1 (by omega)
    subst this
    simp [P.amb]
theorem eq_iff_getD {a b : List At} (h : a.length = b.length) : (∀ i, i < a.length → a.getD i dA = b.getD i dA) ↔ a = b := by
  constructor
  · intro q
    refine List.ext_getElem h fun i h1 h2 => ?_
    have := q i h1
    simpa [List.getD_eq_getElem?_getD, h1, h2] using this
  · rintro rfl i _; rfl
theorem ref_same (a b : List At) (ha : a.length ≤ 8796093022100) : ref06_Same K (a, b) = some (decide (a = b)) := by
  unfold ref06_Same
  try dsimp only
  by_cases hl : a.length = b.length
  · rw [show P.ieq (P.len a) (P.len b) = true from ieq_iff.2 (by simp [len_eq, hl]), show P.not true = false from rfl, cond_false]
    rw [iter_all (n := a.length) (e := .inl ()) (r := .inr false) (fun i => a.getD i dA = b.getD i dA) K ?_ ?_ (by unfold K; omega)]
    · rw [bind_some]
      by_cases h : ∀ i, i < a.length → a.getD i dA = b.getD i dA
      · rw [if_pos h, either_inl, decide_eq_true ((eq_iff_getD hl).1 h)]
      · rw [if_neg h, either_inr, decide_eq_false fun q => h ((eq_iff_getD hl).2 q)]
    · intro i hi
      try dsimp only
      rw [show P.ilt (i : Int) (P.len a) = true from ilt_iff.2 (by rw [len_eq]; omega), cond_true, show P.inb (i : Int) (P.len a) = true from inb_iff.2 (by rw [len_eq]; omega), cond_true, show P.inb (i : Int) (P.len b) = true from inb_iff.2 (by rw [len_eq]; omega), cond_true, get_nat, get_nat, wrap_succ (by omega)]
      by_cases q : a.getD i dA = b.getD i dA
      · rw [show P.and (P.ieq (a.getD i dA).1 (b.getD i dA).1) (P.ieq (a.getD i dA).2 (b.getD i dA).2) = true from eqA_iff.2 q, if_pos q]; rfl
      · rw [show P.and (P.ieq (a.getD i dA).1 (b.getD i dA).1) (P.ieq (a.getD i dA).2 (b.getD i dA).2) = false from by rw [Bool.eq_false_iff]; exact fun z => q (eqA_iff.1 z), if_neg q]; rfl
    · try dsimp only
      rw [show P.ilt (a.length : Int) (P.len a) = false from by rw [Bool.eq_false_iff, Ne, ilt_iff, len_eq]; omega]; rfl
  · rw [show P.ieq (P.len a) (P.len b) = false from by rw [Bool.eq_false_iff, Ne, ieq_iff, len_eq, len_eq]; omega, show P.not false = true from rfl, cond_true, decide_eq_false fun q => hl (by rw [q])]
theorem mem_iff_getD {l : List At} {x : At} : x ∈ l ↔ ∃ i, i < l.length ∧ l.getD i dA = x := by
  rw [List.mem_iff_getElem]
  constructor
  · rintro ⟨i, h, rfl⟩; exact ⟨i, h, by simp [List.getD_eq_getElem?_getD, h]⟩
  · rintro ⟨i, h, rfl⟩; exact ⟨i, h, by simp [List.getD_eq_getElem?_getD, h]⟩
theorem ref_has (l : List At) (x : At) (hl : l.length ≤ 8796093022100) : ref06_Has K (l, x) = some (decide (x ∈ l)) := by
  unfold ref06_Has
  try dsimp only
  rw [iter_all (n := l.length) (e := .inl ()) (r := .inr true) (fun i => l.getD i dA ≠ x) K ?_ ?_ (by unfold K; omega)]
  · rw [bind_some]
    by_cases h : ∀ i, i < l.length → l.getD i dA ≠ x
    · rw [if_pos h, either_inl, decide_eq_false]
      intro q
      obtain ⟨i, h1, h2⟩ := mem_iff_getD.1 q
      exact h i h1 h2
    · rw [if_neg h, either_inr, decide_eq_true]
      refine mem_iff_getD.2 (Classical.byContradiction fun q => h fun i hi e => q ⟨i, hi, e⟩)
  · intro i hi
    try dsimp only
    rw [show P.ilt (i : Int) (P.len l) = true from ilt_iff.2 (by rw [len_eq]; omega), cond_true, show P.inb (i : Int) (P.len l) = true from inb_iff.2 (by rw [len_eq]; omega), cond_true, get_nat, wrap_succ (by omega)]
    by_cases q : l.getD i dA = x
    · rw [show P.and (P.ieq (l.getD i dA).1 x.1) (P.ieq (l.getD i dA).2 x.2) = true from eqA_iff.2 q, if_neg (fun z => z q)]; rfl
    · rw [show P.and (P.ieq (l.getD i dA).1 x.1) (P.ieq (l.getD i dA).2 x.2) = false from by rw [Bool.eq_false_iff]; exact fun z => q (eqA_iff.1 z), if_pos q]; rfl
  · try dsimp only
    rw [show P.ilt (l.length : Int) (P.len l) = false from by rw [Bool.eq_false_iff, Ne, ilt_iff, len_eq]; omega]; rfl
def Within (a b : List At) : Prop := ∀ z, z ∈ a → z ∈ b
instance (a b : List At) : Decidable (Within a b) := by unfold Within; exact inferInstance
end Go.PL
end
section
open Go Go.PG Go.PL
set_option linter.unusedVariables false
namespace Go.PL
theorem ref_right (k : Nat) (a : At) : ref06_Right k a = some (decide (RightA a)) := by
  obtain ⟨a, b⟩ := a
  unfold ref06_Right
  dsimp only
  simp only [cond_eq, ieq_iff, ile_iff]
  repeat' split
  all_goals
    rw [Option.some.injEq, Bool.eq_iff_iff, decide_eq_true_eq]
    simp only [RightA, ieq_iff, ile_iff, Bool.false_eq_true, false_iff]
    omega
theorem ref_less (k : Nat) (a b : At) : ref06_Less k (a, b) = some (decide (ltA a b)) := by
  obtain ⟨a1, a2⟩ := a; obtain ⟨b1, b2⟩ := b
  unfold ref06_Less
  dsimp only
  simp only [cond_eq, ieq_iff, ilt_iff]
  repeat' split
  all_goals
    rw [Option.some.injEq, Bool.eq_iff_iff, decide_eq_true_eq]
    simp only [ltA, ilt_iff, true_iff, Bool.false_eq_true, false_iff]
    omega
theorem room1 (l : List At) (x : At) (h : l.length ≤ 8796093022200) : P.room (P.add (P.len l) (P.len [x])) 16 = true := by
  rw [len_eq, len_eq, room_nat]; simp; omega
def stepA (x : At) (s : List At × Bool) (y : At) : List At × Bool := if s.2 = false ∧ ltA x y then (s.1 ++ [x] ++ [y], true) else (s.1 ++ [y], s.2)
def finA (x : At) (s : List At × Bool) : List At := if s.2 = true then s.1 else s.1 ++ [x]
def layA (x : At) (l : List At) (i : Nat) : List At × Bool := (l.take i).foldl (stepA x) ([], false)
theorem layA_succ {x : At} {l : List At} {i : Nat} (h : i < l.length) : layA x l (i + 1) = stepA x (layA x l i) (l.getD i dA) := by
  unfold layA
  rw [take_getD h, List.foldl_append]
  rfl
theorem lay_len (x : At) (l : List At) : ∀ i, i ≤ l.length → (layA x l i).1.length ≤ i + 1 ∧ ((layA x l i).2 = false → (layA x l i).1.length ≤ i)
  | 0, _ => by simp [layA]
  | i + 1, h => by
    obtain ⟨h1, h2⟩ := lay_len x l i (by omega)
    rw [layA_succ (by omega)]
    unfold stepA
    split
    · rename_i q
      have := h2 q.1
      simp; omega
    · simp
      exact ⟨h1, fun q => h2 q⟩
theorem step_true (x : At) : ∀ (l acc : List At), l.foldl (stepA x) (acc, true) = (acc ++ l, true)
  | [], acc => by simp
  | y :: l, acc => by
    rw [List.foldl_cons, show stepA x (acc, true) y = (acc ++ [y], true) from by simp [stepA], step_true x l]
    simp
theorem step_false (x : At) : ∀ (l acc : List At), finA x (l.foldl (stepA x) (acc, false)) = acc ++ insA x l
  | [], acc => by simp [insA, finA]
  | y :: l, acc => by
    rw [List.foldl_cons]
    unfold insA
    by_cases q : ltA x y
    · rw [show stepA x (acc, false) y = (acc ++ [x] ++ [y], true) from by simp [stepA, q], step_true, if_pos q]; simp [finA]
    · rw [show stepA x (acc, false) y = (acc ++ [y], false) from by simp [stepA, q], step_false x l, if_neg q]; simp
theorem lay_all (x : At) (l : List At) : finA x (layA x l l.length) = insA x l := by
  have := step_false x l []
  unfold layA
  rw [List.take_length]
  simpa using this
theorem ref_add (l : List At) (x : At) (hl : l.length ≤ 8796093022100) : ref06_add K (l, x) = some (addA l x) := by
  unfold ref06_add
  dsimp only
  rw [ref_right, bind_some]
  by_cases h1 : RightA x
  · rw [decide_eq_true h1, show P.not true = false from rfl, cond_false, ref_has l x hl, bind_some]
    by_cases h2 : x ∈ l
    · rw [decide_eq_true h2, cond_true]
      unfold addA
      rw [if_neg (fun q => q.2 h2)]
    · rw [decide_eq_false h2, cond_false]
      unfold addA
      rw [if_pos ⟨h1, h2⟩, ← lay_all]
      have run : ∀ f : List At × Bool × Int → Option ((List At × Bool × Int) ⊕ ((List At × Bool) ⊕ List At)),
          (∀ i, i < l.length → f ((layA x l i).1, (layA x l i).2, (i : Int)) = some (.inl ((layA x l (i + 1)).1, (layA x l (i + 1)).2, ((i + 1 : Nat) : Int)))) →
          f ((layA x l l.length).1, (layA x l l.length).2, (l.length : Int)) = some (.inr (.inl (layA x l l.length))) → P.iter K f ([], false, (0 : Int)) = some (.inl (layA x l l.length)) := by
        intro f hs he
        exact iter_run (fun i => ((layA x l i).1, (layA x l i).2, (i : Int))) _ l.length 0 K (by unfold K; omega) (fun j hj => by simpa using hs j hj) (by simpa using he)
      rw [run _ (fun i hi => ?_) ?_]
      · rw [bind_some, either_inl]
        cases hb : (layA x l l.length).2
        · rw [show P.not false = true from rfl, cond_true, room1 _ _ (by have := (lay_len x l l.length (Nat.le_refl _)).1; omega), cond_true]
          unfold finA
          rw [if_neg (by simp [hb])]; rfl
        · rw [show P.not true = false from rfl, cond_false]
          unfold finA
          rw [if_pos hb]
      · try dsimp only
        rw [show P.ilt (l.length : Int) (P.len l) = false from by rw [Bool.eq_false_iff, Ne, ilt_iff, len_eq]; omega]; rfl
      · try dsimp only
        have hr := (lay_len x l i (by omega)).1
        have r1 : P.room (P.add (P.len (layA x l i).1) (P.len [x])) 16 = true := room1 _ _ (by omega)
        have r2 : P.room (P.add (P.len (layA x l i).1) (P.len [l.getD i dA])) 16 = true := room1 _ _ (by omega)
        have r3 : P.room (P.add (P.len (P.app (layA x l i).1 [x])) (P.len [l.getD i dA])) 16 = true := room1 _ _ (by simp [P.app]; omega)
        simp only [show P.ilt (i : Int) (P.len l) = true from ilt_iff.2 (by rw [len_eq]; omega), show P.inb (i : Int) (P.len l) = true from inb_iff.2 (by rw [len_eq]; omega), cond_true, get_nat, wrap_succ (show i + 1 < 9223372036854775808 by omega), r1, r2, r3]
        rw [ref_less, bind_some, layA_succ hi]
        unfold stepA
        cases hb : (layA x l i).2
        · rw [show P.not false = true from rfl, cond_true]
          by_cases q : ltA x (l.getD i dA)
          · rw [decide_eq_true q, cond_true, if_pos ⟨rfl, q⟩]; rfl
          · rw [decide_eq_false q, cond_false, if_neg (fun z => q z.2)]; rfl
        · rw [show P.not true = false from rfl, cond_false, if_neg (fun z => by cases z.1)]; rfl
  · rw [decide_eq_false h1, show P.not false = true from rfl, cond_true]
    unfold addA
    rw [if_neg (fun q => h1 q.1)]
theorem fold_add (l acc : List At) (h : acc.length + l.length ≤ 8796093022000) :
    P.bind (P.iter K (fun (y : List (Int × Int) × Int) => P.cond (P.ilt y.snd (P.len l)) (P.cond (P.inb y.snd (P.len l)) (P.bind (ref06_add K (y.fst, P.get l y.snd ((0 : Int), (0 : Int)))) fun (r : List (Int × Int)) => some (Sum.inl (r, P.wrap IntKind.i64 (P.add y.snd ((1 : Int)))))) none) (some (Sum.inr (Sum.inl y.fst)))) (acc, (0 : Int))) (P.either (fun (z : List (Int × Int)) => some z) fun (r : List (Int × Int)) => some r) = some (l.foldl addA acc) := by
  have run : ∀ f : List At × Int → Option ((List At × Int) ⊕ (List At ⊕ List At)),
      (∀ i, i < l.length → f ((l.take i).foldl addA acc, (i : Int)) = some (.inl ((l.take (i + 1)).foldl addA acc, ((i + 1 : Nat) : Int)))) →
      f (l.foldl addA acc, (l.length : Int)) = some (.inr (.inl (l.foldl addA acc))) → P.iter K f (acc, (0 : Int)) = some (.inl (l.foldl addA acc)) := by
    intro f hs he
    exact iter_run (fun i => ((l.take i).foldl addA acc, (i : Int))) _ l.length 0 K (by unfold K; omega) (fun j hj => by simpa using hs j hj) (by simpa using he)
  rw [run _ (fun i hi => ?_) ?_]
  · rfl
  · try dsimp only
    rw [show P.ilt (l.length : Int) (P.len l) = false from by rw [Bool.eq_false_iff, Ne, ilt_iff, len_eq]; omega]; rfl
  · try dsimp only
    have hr := fold_length (l.take i) acc
    rw [List.length_take] at hr
    rw [show P.ilt (i : Int) (P.len l) = true from ilt_iff.2 (by rw [len_eq]; omega), cond_true, show P.inb (i : Int) (P.len l) = true from inb_iff.2 (by rw [len_eq]; omega), cond_true, get_nat, wrap_succ (by omega), ref_add _ _ (by omega), bind_some, take_getD hi, List.foldl_append]
    rfl
theorem ref_norm (l : List At) (h : l.length ≤ 8796093022000) : ref06_Norm K l = some (norm l) := fold_add l [] (by simpa using h)
theorem ref_may (l : List At) (h : l.length ≤ 8796093022000) : ref06_May K l = some (decide (l = norm l)) := by
  unfold ref06_May
  rw [ref_norm l h, bind_some, ref_same l _ (by omega), bind_some]
end Go.PL
end
section
open Go Go.PG Go.PL
set_option linter.unusedVariables false
namespace Go.PL
def renA (s : Int) (x : At) : At := if x = (4, s) then (5, s) else x
end Go.PL
end
section
open Go Go.PG Go.PL
set_option linter.unusedVariables false
namespace Go.PL
end Go.PL
end
section
open Go Go.PG Go.PL
set_option linter.unusedVariables false
namespace Go.PL
abbrev Fd := ByteArray × Bool × List At
abbrev Sp := List Fd × List At
abbrev dF : Fd := (⟨#[]⟩, false, [])
abbrev RisesF (l : List Fd) : Prop := l.Pairwise fun a b => ltS a.1 b.1
def get (l : List Fd) (n : ByteArray) : Option Fd := l.find? fun f => decide (f.1 = n)
theorem get_mem {l : List Fd} {n : ByteArray} {f : Fd} (h : get l n = some f) : f ∈ l := List.mem_of_find?_eq_some h
def put (l : List Fd) (f : Fd) : List Fd := match l with
  | [] => [f]
  | g :: r => if ltS f.1 g.1 then f :: g :: r else if f.1 = g.1 then f :: r else g :: put r f
end Go.PL
end
section
open Go Go.PG Go.PL
set_option linter.unusedVariables false
namespace Go.PL
end Go.PL
end
section
open Go Go.PG Go.PL
set_option linter.unusedVariables false
namespace Go.PL
def FewS (s : Sp) : Prop := s.1.length ≤ 100000 ∧ (∀ f, f ∈ s.1 → f.2.2.length ≤ 100000) ∧ s.2.length ≤ 100000
theorem range_map {α : Type} (l : List α) (d : α) : (List.range l.length).map (fun i => l.getD i d) = l := by
  apply List.ext_getElem
  · simp
  · intro i h1 h2
    simp at h1
    simp [List.getD_eq_getElem?_getD, h1]
theorem find_range {ρ : Type} (l : List Fd) (n : ByteArray) (g : Fd → ρ) : (List.range l.length).findSome? (fun i => if (l.getD i dF).1 = n then some (g (l.getD i dF)) else none) = (get l n).map g := by
  have h : ∀ m : List Fd, m.findSome? (fun f => if f.1 = n then some (g f) else none) = (get m n).map g := by
    intro m
    induction m with
    | nil => rfl
    | cons f m ih =>
      simp only [List.findSome?_cons, get, List.find?_cons]
      by_cases q : f.1 = n
      · simp [q]
      · simp only [q, if_false, decide_false]
        exact ih
  conv => rhs; rw [← h l, ← range_map l dF]
  rw [List.findSome?_map]
  rfl
theorem mem_getD {l : List Fd} {i : Nat} (h : i < l.length) : l.getD i dF ∈ l := by
  rw [List.getD_eq_getElem?_getD, List.getElem?_eq_getElem h]
  exact List.getElem_mem _
def getR (l : List Fd) (n : ByteArray) : Fd × Bool := match get l n with
  | some f => (f, true)
  | none => (dF, false)
theorem getR_eq (l : List Fd) (n : ByteArray) : ((get l n).map fun f => (Sum.inr (f, true) : Unit ⊕ (Fd × Bool))).getD (.inl ()) = match get l n with
    | some f => .inr (f, true)
    | none => .inl () := by cases get l n <;> rfl
theorem ob_get (s : Sp) (n : ByteArray) (h : FewS s) : object_Get K (s, n) = some (getR s.1 n) := by
  unfold object_Get
  try dsimp only
  obtain ⟨h1, h2, h3⟩ := h
  have run : ∀ f : Int → Option (Int ⊕ (Unit ⊕ (Fd × Bool))), (∀ i : Nat, i < s.1.length → f (i : Int) = some (if (s.1.getD i dF).1 = n then .inr (.inr (s.1.getD i dF, true)) else .inl ((i + 1 : Nat) : Int))) → f (s.1.length : Int) = some (.inr (.inl ())) → P.iter K f 0 = some (match get s.1 n with
      | some f => .inr (f, true)
      | none => .inl ()) := by
    intro f hs he
    rw [iter_find0 (n := s.1.length) (e := .inl ()) (fun i => (if (s.1.getD i dF).1 = n then some (Sum.inr (s.1.getD i dF, true)) else none : Option (Unit ⊕ (Fd × Bool)))) K (fun i hi => by rw [hs i hi]; by_cases q : (s.1.getD i dF).1 = n <;> simp only [q, if_true, if_false]) he (by unfold K; omega), find_range s.1 n (fun f => (Sum.inr (f, true) : Unit ⊕ (Fd × Bool))), getR_eq]
  rw [run _ ?_ ?_]
  · rw [bind_some]
    unfold getR
    cases get s.1 n with
    | some f => rfl
    | none => rfl
  · intro i hi
    try dsimp only
    rw [show P.ilt (i : Int) (P.len s.1) = true from ilt_iff.2 (by rw [len_eq]; omega), cond_true, show P.inb (i : Int) (P.len s.1) = true from inb_iff.2 (by rw [len_eq]; omega), cond_true, cond_true, get_nat, wrap_succ (by omega), show P.ilt (i : Int) ((0 : Int)) = false from by rw [Bool.eq_false_iff, Ne, ilt_iff]; omega, cond_false, at_clone K (s.1.getD i dF).2.2 (by have := h2 _ (mem_getD hi); omega), bind_some]
    by_cases q : (s.1.getD i dF).1 = n
    · rw [if_pos q, show P.seq (s.1.getD i dF).1 n = true from seq_iff.2 q]; rfl
    · rw [if_neg q, show P.seq (s.1.getD i dF).1 n = false from by rw [Bool.eq_false_iff]; exact fun z => q (seq_iff.1 z)]; rfl
  · try dsimp only
    rw [show P.ilt (s.1.length : Int) (P.len s.1) = false from by rw [Bool.eq_false_iff, Ne, ilt_iff, len_eq]; omega]; rfl
theorem ref_get (s : Sp) (n : ByteArray) (h : s.1.length ≤ 1000000) : ref07_Get K (s, n) = some (getR s.1 n) := by
  unfold ref07_Get
  try dsimp only
  have run : ∀ f : Int → Option (Int ⊕ (Unit ⊕ (Fd × Bool))), (∀ i : Nat, i < s.1.length → f (i : Int) = some (if (s.1.getD i dF).1 = n then .inr (.inr (s.1.getD i dF, true)) else .inl ((i + 1 : Nat) : Int))) → f (s.1.length : Int) = some (.inr (.inl ())) → P.iter K f 0 = some (match get s.1 n with
      | some f => .inr (f, true)
      | none => .inl ()) := by
    intro f hs he
    rw [iter_find0 (n := s.1.length) (e := .inl ()) (fun i => (if (s.1.getD i dF).1 = n then some (Sum.inr (s.1.getD i dF, true)) else none : Option (Unit ⊕ (Fd × Bool)))) K (fun i hi => by rw [hs i hi]; by_cases q : (s.1.getD i dF).1 = n <;> simp only [q, if_true, if_false]) he (by unfold K; omega), find_range s.1 n (fun f => (Sum.inr (f, true) : Unit ⊕ (Fd × Bool))), getR_eq]
  rw [run _ ?_ ?_]
  · rw [bind_some]
    unfold getR
    cases get s.1 n with
    | some f => rfl
    | none => rfl
  · intro i hi
    try dsimp only
    simp only [show P.ilt (i : Int) (P.len s.1) = true from ilt_iff.2 (by rw [len_eq]; omega), cond_true, show P.inb (i : Int) (P.len s.1) = true from inb_iff.2 (by rw [len_eq]; omega), get_nat, wrap_succ (show i + 1 < 9223372036854775808 by omega)]
    by_cases q : (s.1.getD i dF).1 = n
    · rw [if_pos q, show P.seq (s.1.getD i dF).1 n = true from seq_iff.2 q]; rfl
    · rw [if_neg q, show P.seq (s.1.getD i dF).1 n = false from by rw [Bool.eq_false_iff]; exact fun z => q (seq_iff.1 z)]; rfl
  · try dsimp only
    rw [show P.ilt (s.1.length : Int) (P.len s.1) = false from by rw [Bool.eq_false_iff, Ne, ilt_iff, len_eq]; omega]; rfl
end Go.PL
end
section
open Go Go.PG Go.PL
set_option linter.unusedVariables false
namespace Go.PL
def MayO (s : Sp) : Prop := RisesF s.1 ∧ (∀ f, f ∈ s.1 → f.2.2 = norm f.2.2) ∧ s.2 = norm s.2
instance (s : Sp) : Decidable (MayO s) := by unfold MayO; exact inferInstance
def StepO (l : List Fd) (i : Nat) : Prop := (l.getD i dF).2.2 = norm (l.getD i dF).2.2 ∧ (0 < i → ltS (l.getD (i - 1) dF).1 (l.getD i dF).1)
instance (l : List Fd) (i : Nat) : Decidable (StepO l i) := by unfold StepO; exact inferInstance
end Go.PL
end
section
open Go Go.PG Go.PL
set_option linter.unusedVariables false
namespace Go.PL
theorem take_getF {l : List Fd} {j : Nat} (h : j < l.length) : l.take (j + 1) = l.take j ++ [l.getD j dF] := by
  rw [List.take_add_one, List.getElem?_eq_getElem h]
  simp [List.getD_eq_getElem?_getD, h]
theorem copy_run {ρ : Type} (l : List Fd) (p : List At) (hl : l.length ≤ 1000000) (f : Int × List Fd × List At → Option ((Int × List Fd × List At) ⊕ ((List Fd × List At) ⊕ ρ)))
    (hs : ∀ i : Nat, i < l.length → f ((i : Int), l.take i, p) = some (.inl (((i + 1 : Nat) : Int), l.take i ++ [l.getD i dF], p))) (he : f ((l.length : Int), l, p) = some (.inr (.inl (l, p)))) : P.iter K f (0, [], p) = some (.inl (l, p)) := by
  refine iter_run (fun i => ((i : Int), l.take i, p)) _ l.length 0 K (by unfold K; omega) (fun j hj => ?_) (by simpa using he)
  have := hs j hj
  simp only [Nat.zero_add]
  rw [this, take_getF hj]
theorem room48 (l : List Fd) (x : Fd) (h : l.length ≤ 4000000) : P.room (P.add (P.len l) (P.len [x])) 48 = true := by
  rw [len_eq, len_eq, room_nat]; simp; omega
end Go.PL
namespace Go.PL
def strong (s : Sp) (n : ByteArray) (v : List At) : Sp := if MayO s then (put s.1 (n, true, norm v), s.2) else ([], [])
def weak (s : Sp) (n : ByteArray) (v : List At) : Sp := if MayO s then (put s.1 (n, (getR s.1 n).1.2.1, norm ((getR s.1 n).1.2.2 ++ v)), s.2) else ([], [])
theorem getR_few {s : Sp} (h : FewS s) (n : ByteArray) : (getR s.1 n).1.2.2.length ≤ 100000 := by
  unfold getR
  cases q : get s.1 n with
  | none => simp
  | some f => exact h.2.1 f (get_mem q)
theorem copy_step (l : List Fd) (hl : l.length ≤ 1000000) (hv : ∀ f, f ∈ l → f.2.2.length ≤ 100000) (p : List At) {ρ : Type} (i : Nat) (hi : i < l.length) :
    (P.cond (P.ilt (i : Int) (P.len l)) (P.cond (P.inb (i : Int) (P.len l)) (P.bind (slCloneAtom K (P.get l (i : Int) ((ByteArray.mk #[]), false, [])).snd.snd) fun (r : List (Int × Int)) => P.cond (P.room (P.add (P.len (l.take i)) (P.len [((P.get l (i : Int) ((ByteArray.mk #[]), false, [])).fst, (P.get l (i : Int) ((ByteArray.mk #[]), false, [])).snd.fst, r)])) 48) (some (Sum.inl (P.wrap IntKind.i64 (P.add (i : Int) ((1 : Int))), P.app (l.take i) [((P.get l (i : Int) ((ByteArray.mk #[]), false, [])).fst, (P.get l (i : Int) ((ByteArray.mk #[]), false, [])).snd.fst, r)], p))) none) none) (some (Sum.inr (Sum.inl (l.take i, p)))) : Option ((Int × List Fd × List At) ⊕ ((List Fd × List At) ⊕ ρ))) = some (.inl (((i + 1 : Nat) : Int), l.take i ++ [l.getD i dF], p)) := by
  rw [show P.ilt (i : Int) (P.len l) = true from ilt_iff.2 (by rw [len_eq]; omega), cond_true, show P.inb (i : Int) (P.len l) = true from inb_iff.2 (by rw [len_eq]; omega), cond_true, get_nat, at_clone K (l.getD i dF).2.2 (by have := hv _ (mem_getD hi); omega), bind_some, room48 _ _ (by rw [List.length_take]; omega), cond_true, wrap_succ (by omega)]
  rfl
theorem copy_end {α : Type} (l : List Fd) (A : Option α) (B : Option α) : P.cond (P.ilt (l.length : Int) (P.len l)) A B = B := by
  rw [show P.ilt (l.length : Int) (P.len l) = false from by rw [Bool.eq_false_iff, Ne, ilt_iff, len_eq]; omega]; rfl
end Go.PL
end
section
open Go Go.PG Go.PL
set_option linter.unusedVariables false
namespace Go.PL
end Go.PL
end
section
open Go Go.PG Go.PL
set_option linter.unusedVariables false
namespace Go.PL
def renF (s : Int) (f : Fd) : Fd := (f.1, f.2.1, norm (f.2.2.map (renA s)))
def rename (o : Sp) (s : Int) : Sp := if MayO o then (o.1.map (renF s), norm (o.2.map (renA s))) else ([], [])
end Go.PL
end
section
open Go Go.PG Go.PL
set_option linter.unusedVariables false
namespace Go.PL
def FldIn (b : List Fd) (f : Fd) : Prop := (getR b f.1).2 = true ∧ Within f.2.2 (getR b f.1).1.2.2 ∧ ((getR b f.1).1.2.1 = true → f.2.1 = true)
instance (b : List Fd) (f : Fd) : Decidable (FldIn b f) := by unfold FldIn; exact inferInstance
def SureIn (a : List Fd) (g : Fd) : Prop := g.2.1 = true → (getR a g.1).2 = true
instance (a : List Fd) (g : Fd) : Decidable (SureIn a g) := by unfold SureIn; exact inferInstance
def WithinO (a b : Sp) : Prop := MayO a ∧ MayO b ∧ Within a.2 b.2 ∧ (∀ f, f ∈ a.1 → FldIn b.1 f) ∧ ∀ g, g ∈ b.1 → SureIn a.1 g
instance (a b : Sp) : Decidable (WithinO a b) := by unfold WithinO; exact inferInstance
end Go.PL
end
section
open Go Go.PG Go.PL
set_option linter.unusedVariables false
namespace Go.PL
end Go.PL
end
section
open Go Go.PG Go.PL
set_option linter.unusedVariables false
namespace Go.PL
def SmallS (s : Sp) : Prop := (∀ f, f ∈ s.1 → f.2.2.length ≤ 60) ∧ s.1.length ≤ 60 ∧ s.2.length ≤ 60
instance (s : Sp) : Decidable (SmallS s) := by unfold SmallS; exact inferInstance
end Go.PL
end
section
open Go Go.PG Go.PL
set_option linter.unusedVariables false
namespace Go.PL
def joinF (a b : List Fd) (n : ByteArray) : Fd := (n, (getR a n).2 && (getR b n).2 && (getR a n).1.2.1 && (getR b n).1.2.1, norm ((getR a n).1.2.2 ++ (getR b n).1.2.2))
def foldJ (a b l acc : List Fd) : List Fd := l.foldl (fun out f => put out (joinF a b f.1)) acc
def has (l : List Fd) (n : ByteArray) : Bool := (get l n).isSome
def joinL (a b : List Fd) : List Fd := foldJ a b (a ++ b) []
def join (a b : Sp) : Sp := if MayO a ∧ MayO b then (joinL a.1 b.1, norm (a.2 ++ b.2)) else ([], [])
end Go.PL
end
section
open Go Go.PG Go.PL
set_option linter.unusedVariables false
namespace Go.PL
end Go.PL
end
section
open Go Go.PG Go.PL
set_option linter.unusedVariables false
namespace Go.PL
end Go.PL
end
section
open Go Go.PG Go.PL
set_option linter.unusedVariables false
namespace Go.PL
end Go.PL
end
section
open Go Go.PG Go.PL
set_option linter.unusedVariables false
namespace Go.PL
end Go.PL
end
section
open Go Go.PG Go.PL
set_option linter.unusedVariables false
namespace Go.PL
end Go.PL
end
section
open Go Go.PG Go.PL
set_option linter.unusedVariables false
namespace Go.PL
end Go.PL
end
section
open Go Go.PG Go.PL
set_option linter.unusedVariables false
namespace Go.PL
end Go.PL
end
section
open Go Go.PG Go.PL
set_option linter.unusedVariables false
namespace Go.PL
instance (s : Sp) : Decidable (FewS s) := by unfold FewS; exact inferInstance
end Go.PL
end
section
open Go Go.PG Go.PL
set_option linter.unusedVariables false
namespace Go.PL
def pr (l : List Fd) (n : ByteArray) : Bool := (getR l n).2
def su (l : List Fd) (n : ByteArray) : Bool := (getR l n).1.2.1
def va (l : List Fd) (n : ByteArray) : List At := (getR l n).1.2.2
end Go.PL
end
section
open Go Go.PG Go.PL
set_option linter.unusedVariables false
namespace Go.PL
end Go.PL
end
section
open Go Go.PG Go.PL
set_option linter.unusedVariables false
namespace Go.PL
theorem beq_refl (b : Bool) : P.beq b b = true := beq_iff.2 rfl
end Go.PL
end
section
open Go Go.PG Go.PL
set_option linter.unusedVariables false
namespace Go.PL
end Go.PL
end
section
open Go Go.PG Go.PL
set_option linter.all false
namespace Go.PL
abbrev Bv := ByteArray × List At
abbrev Lc := At × Sp
abbrev Sta := Bool × List Bv × List Lc
abbrev dB : Bv := (⟨#[]⟩, [])
abbrev dL : Lc := ((0, 0), [], [])
theorem getD_mem {α : Type} {l : List α} {i : Nat} (h : i < l.length) (d : α) : l.getD i d ∈ l := by
  simp [List.getD_eq_getElem?_getD, h]
theorem forall_getD {α : Type} {l : List α} (d : α) {p : α → Prop} : (∀ i, i < l.length → p (l.getD i d)) ↔ ∀ f, f ∈ l → p f := by
  constructor
  · intro h f hf
    obtain ⟨i, hi, rfl⟩ := List.getElem_of_mem hf
    have := h i hi
    simpa [List.getD_eq_getElem?_getD, hi] using this
  · intro h i hi; exact h _ (getD_mem hi d)
theorem take_getD' {α : Type} {l : List α} {j : Nat} (h : j < l.length) (d : α) : l.take (j + 1) = l.take j ++ [l.getD j d] := by
  rw [List.take_add_one, List.getElem?_eq_getElem h]
  simp [List.getD_eq_getElem?_getD, h]
theorem ilt_len {α : Type} {l : List α} {i : Nat} (h : i < l.length) : P.ilt (i : Int) (P.len l) = true := ilt_iff.2 (by rw [len_eq]; omega)
theorem ilt_end {α : Type} (l : List α) : P.ilt (l.length : Int) (P.len l) = false := by rw [Bool.eq_false_iff, Ne, ilt_iff, len_eq]; omega
theorem inb_len {α : Type} {l : List α} {i : Nat} (h : i < l.length) : P.inb (i : Int) (P.len l) = true := inb_iff.2 (by rw [len_eq]; omega)
theorem not_true : P.not true = false := rfl
theorem cond_dec {α : Type} (p : Prop) [Decidable p] (x y : α) : P.cond (decide p) x y = if p then x else y := by
  by_cases h : p
  · rw [decide_eq_true h, if_pos h]; rfl
  · rw [decide_eq_false h, if_neg h]; rfl
theorem cond_ndec {α : Type} (p : Prop) [Decidable p] (x y : α) : P.cond (P.not (decide p)) x y = if p then y else x := by
  by_cases h : p
  · rw [decide_eq_true h, if_pos h]; rfl
  · rw [decide_eq_false h, if_neg h]; rfl
theorem slt_dec (a b : ByteArray) : P.slt a b = decide (ltS a b) := by rw [Bool.eq_iff_iff, slt_iff, decide_eq_true_eq]
theorem seq_dec (a b : ByteArray) : P.seq a b = decide (a = b) := by rw [Bool.eq_iff_iff, seq_iff, decide_eq_true_eq]
theorem ilt_dec (a b : Int) : P.ilt a b = decide (a < b) := rfl
theorem ile_dec (a b : Int) : P.ile a b = decide (a ≤ b) := rfl
theorem eqA_dec (a b : At) : P.and (P.ieq a.1 b.1) (P.ieq a.2 b.2) = decide (a = b) := by rw [Bool.eq_iff_iff, eqA_iff, decide_eq_true_eq]
theorem beq_dec (a b : Bool) : P.beq a b = decide (a = b) := by cases a <;> cases b <;> rfl
theorem loop_all {ρ σ : Type} (n : Nat) (p : Nat → Prop) [DecidablePred p] {f : Int → Option (Int ⊕ (Unit ⊕ ρ))} {A : Option σ} {B : ρ → Option σ} {r : ρ} (hn : n ≤ 1000000000)
    (hs : ∀ i : Nat, i < n → f (i : Int) = some (if p i then .inl ((i + 1 : Nat) : Int) else .inr (.inr r))) (he : f (n : Int) = some (.inr (.inl ()))) :
    P.bind (P.iter K f 0) (P.either (fun (_ : Unit) => A) B) = if ∀ i, i < n → p i then A else B r := by
  rw [iter_all (n := n) (e := .inl ()) (r := .inr r) p K hs he (by unfold K; omega), bind_some]
  by_cases q : ∀ i, i < n → p i
  · rw [if_pos q, if_pos q]; rfl
  · rw [if_neg q, if_neg q]; rfl
theorem loop_fold {τ ρ σ : Type} (n : Nat) (s : Nat → τ) {f : Int × τ → Option ((Int × τ) ⊕ (τ ⊕ ρ))} {A : τ → Option σ} {B : ρ → Option σ} (hn : n ≤ 1000000000)
    (hs : ∀ i : Nat, i < n → f ((i : Int), s i) = some (.inl (((i + 1 : Nat) : Int), s (i + 1)))) (he : f ((n : Int), s n) = some (.inr (.inl (s n)))) :
    P.bind (P.iter K f (0, s 0)) (P.either A B) = A (s n) := by
  have := iter_run (f := f) (fun i => ((i : Int), s i)) _ n 0 K (by unfold K; omega) (fun j hj => by simp only [Nat.zero_add]; exact hs j hj) (by simpa using he)
  rw [show ((0 : Nat) : Int) = 0 from rfl] at this
  rw [this, bind_some, either_inl]
def PlaceA (a : At) : Prop := (a.1 = 4 ∨ a.1 = 5) ∧ 0 ≤ a.2
instance (a : At) : Decidable (PlaceA a) := by unfold PlaceA; exact inferInstance
abbrev RisesB (l : List Bv) : Prop := l.Pairwise fun a b => ltS a.1 b.1
abbrev RisesL (l : List Lc) : Prop := l.Pairwise fun a b => ltA a.1 b.1
def MayS (s : Sta) : Prop := (RisesB s.2.1 ∧ ∀ b, b ∈ s.2.1 → b.2 = norm b.2) ∧ (RisesL s.2.2 ∧ ∀ l, l ∈ s.2.2 → PlaceA l.1 ∧ MayO l.2) ∧ (s.1 = true → s.2.1 = [] ∧ s.2.2 = [])
instance (s : Sta) : Decidable (MayS s) := by unfold MayS; exact inferInstance
def FewT (s : Sta) : Prop := s.2.1.length ≤ 100000 ∧ (∀ b, b ∈ s.2.1 → b.2.length ≤ 100000) ∧ s.2.2.length ≤ 100000 ∧ ∀ l, l ∈ s.2.2 → FewS l.2
instance (s : Sta) : Decidable (FewT s) := by unfold FewT; exact inferInstance
end Go.PL
end
section
open Go Go.PG Go.PL
set_option linter.all false
namespace Go.PL
def StepB (l : List Bv) (i : Nat) : Prop := (l.getD i dB).2 = norm (l.getD i dB).2 ∧ (0 < i → ltS (l.getD (i - 1) dB).1 (l.getD i dB).1)
instance (l : List Bv) (i : Nat) : Decidable (StepB l i) := by unfold StepB; exact inferInstance
def StepL (l : List Lc) (i : Nat) : Prop := (PlaceA (l.getD i dL).1 ∧ MayO (l.getD i dL).2) ∧ (0 < i → ltA (l.getD (i - 1) dL).1 (l.getD i dL).1)
instance (l : List Lc) (i : Nat) : Decidable (StepL l i) := by unfold StepL; exact inferInstance
instance decSp : DecidableEq Sp := fun a b => inferInstance
instance decLc : DecidableEq Lc := fun a b => decidable_of_iff (a.1 = b.1 ∧ a.2 = b.2) ⟨fun h => Prod.ext h.1 h.2, fun h => by rw [h]; exact ⟨rfl, rfl⟩⟩
instance decSta : DecidableEq Sta := fun a b => decidable_of_iff (a.1 = b.1 ∧ a.2.1 = b.2.1 ∧ a.2.2 = b.2.2) ⟨fun h => Prod.ext h.1 (Prod.ext h.2.1 h.2.2), fun h => by rw [h]; exact ⟨rfl, rfl, rfl⟩⟩
end Go.PL
end
section
open Go Go.PG Go.PL
set_option linter.all false
namespace Go.PL
theorem range_findSome {α ρ : Type} (l : List α) (d : α) (h : α → Option ρ) : (List.range l.length).findSome? (fun i => h (l.getD i d)) = l.findSome? h := by
  conv => rhs; rw [← range_map l d]
  rw [List.findSome?_map]; rfl
theorem findSome_if {α ρ : Type} (q : α → Prop) [DecidablePred q] (g : α → ρ) : ∀ l : List α, l.findSome? (fun x => if q x then some (g x) else none) = (l.find? fun x => decide (q x)).map g := by
  intro l
  induction l with
  | nil => rfl
  | cons a l ih =>
    rw [List.findSome?_cons, List.find?_cons]
    by_cases h : q a
    · rw [if_pos h, decide_eq_true h]; rfl
    · rw [if_neg h, decide_eq_false h]; exact ih
theorem loop_find {α ρ σ : Type} (l : List α) (d : α) (q : α → Prop) [DecidablePred q] (g : α → ρ) {f : Int → Option (Int ⊕ (Unit ⊕ ρ))} {A : Option σ} {B : ρ → Option σ} (hn : l.length ≤ 1000000000)
    (hs : ∀ i : Nat, i < l.length → f (i : Int) = some (if q (l.getD i d) then .inr (.inr (g (l.getD i d))) else .inl ((i + 1 : Nat) : Int))) (he : f (l.length : Int) = some (.inr (.inl ()))) :
    P.bind (P.iter K f 0) (P.either (fun (_ : Unit) => A) B) = match l.find? fun x => decide (q x) with
      | some x => B (g x)
      | none => A := by
  rw [iter_find0 (n := l.length) (e := .inl ()) (fun i => if q (l.getD i d) then some (.inr (g (l.getD i d))) else none) K (fun i hi => by
    rw [hs i hi]
    by_cases h : q (l.getD i d)
    · rw [if_pos h, if_pos h]
    · rw [if_neg h, if_neg h]) he (by unfold K; omega)]
  rw [range_findSome l d (fun x => if q x then some (Sum.inr (g x) : Unit ⊕ ρ) else none), findSome_if q (fun x => (Sum.inr (g x) : Unit ⊕ ρ)) l, bind_some]
  cases l.find? fun x => decide (q x) with
  | none => rfl
  | some x => rfl
def getV (l : List Bv) (n : ByteArray) : Option Bv := l.find? fun b => decide (b.1 = n)
def var (l : List Bv) (n : ByteArray) : List At := match getV l n with
  | some b => b.2
  | none => [(0, 0)]
def getL (l : List Lc) (x : At) : Option Lc := l.find? fun b => decide (b.1 = x)
def locR (l : List Lc) (x : At) : Sp × Bool := match getL l x with
  | some b => (b.2, true)
  | none => (([], []), false)
theorem ref_var (s : Sta) (n : ByteArray) (h : s.2.1.length ≤ 1000000) : ref08_Var K (s, n) = some (var s.2.1 n) := by
  unfold ref08_Var
  try dsimp only
  rw [loop_find s.2.1 dB (fun b => b.1 = n) (fun b => b.2) (by omega) ?_ ?_]
  · unfold var getV
    cases s.2.1.find? fun b => decide (b.1 = n) with
    | none => rfl
    | some b => rfl
  · intro i hi
    try dsimp only
    rw [ilt_len hi, cond_true, inb_len hi, cond_true, cond_true, get_nat, seq_dec, cond_dec, wrap_succ (by omega)]
    by_cases q : (s.2.1.getD i dB).1 = n
    · rw [if_pos q, if_pos q]
    · rw [if_neg q, if_neg q]
  · try dsimp only
    rw [ilt_end]; rfl
theorem ref_loc (s : Sta) (x : At) (h : s.2.2.length ≤ 1000000) : ref08_Loc K (s, x) = some (locR s.2.2 x) := by
  unfold ref08_Loc
  try dsimp only
  rw [loop_find s.2.2 dL (fun b => b.1 = x) (fun b => (b.2, true)) (by omega) ?_ ?_]
  · unfold locR getL
    cases s.2.2.find? fun b => decide (b.1 = x) with
    | none => rfl
    | some b => rfl
  · intro i hi
    try dsimp only
    rw [ilt_len hi, cond_true, inb_len hi, cond_true, cond_true, get_nat, eqA_dec, cond_dec, wrap_succ (by omega)]
    by_cases q : (s.2.2.getD i dL).1 = x
    · rw [if_pos q, if_pos q]
    · rw [if_neg q, if_neg q]
  · try dsimp only
    rw [ilt_end]; rfl
def SmallL (l : Lc) : Prop := l.2.1.length ≤ 40 ∧ l.2.2.length ≤ 40 ∧ ∀ f, f ∈ l.2.1 → f.2.2.length ≤ 40
instance (l : Lc) : Decidable (SmallL l) := by unfold SmallL; exact inferInstance
def SmallT (s : Sta) : Prop := s.2.1.length ≤ 40 ∧ s.2.2.length ≤ 40 ∧ (∀ b, b ∈ s.2.1 → b.2.length ≤ 40) ∧ ∀ l, l ∈ s.2.2 → SmallL l
instance (s : Sta) : Decidable (SmallT s) := by unfold SmallT; exact inferInstance
theorem small_fewL {l : Lc} (h : SmallL l) : FewS l.2 := ⟨by have := h.1; omega, fun f hf => by have := h.2.2 f hf; omega, by have := h.2.1; omega⟩
theorem small_fewT {s : Sta} (h : SmallT s) : FewT s := ⟨by have := h.1; omega, fun b hb => by have := h.2.2.1 b hb; omega, by have := h.2.1; omega, fun l hl => small_fewL (h.2.2.2 l hl)⟩
theorem ilt_dec40 {α : Type} (l : List α) : P.ilt (40 : Int) (P.len l) = decide (¬ l.length ≤ 40) := by rw [ilt_dec, len_eq, decide_eq_decide]; omega
theorem ref_small8 (s : Sta) : ref08_Small K s = some (decide (SmallT s)) := by
  unfold ref08_Small
  try dsimp only
  rw [ilt_dec40, cond_dec, ilt_dec40, cond_dec]
  by_cases q1 : s.2.1.length ≤ 40
  · by_cases q2 : s.2.2.length ≤ 40
    · rw [if_neg (fun z => z q1), if_neg (fun z => z q2), loop_all s.2.1.length (fun i => (s.2.1.getD i dB).2.length ≤ 40) (r := false) (by omega) ?_ ?_]
      · rw [loop_all s.2.2.length (fun i => SmallL (s.2.2.getD i dL)) (r := false) (by omega) ?_ ?_]
        · have e1 := forall_getD (l := s.2.1) dB (p := fun b => b.2.length ≤ 40)
          have e2 := forall_getD (l := s.2.2) dL (p := SmallL)
          by_cases z1 : ∀ i, i < s.2.1.length → (s.2.1.getD i dB).2.length ≤ 40
          · by_cases z2 : ∀ i, i < s.2.2.length → SmallL (s.2.2.getD i dL)
            · rw [if_pos z1, if_pos z2, decide_eq_true (show SmallT s from ⟨q1, q2, e1.1 z1, e2.1 z2⟩)]
            · rw [if_pos z1, if_neg z2, decide_eq_false (fun z : SmallT s => z2 (e2.2 z.2.2.2))]
          · rw [if_neg z1, decide_eq_false (fun z : SmallT s => z1 (e1.2 z.2.2.1))]
        · intro i hi
          try dsimp only
          rw [ilt_len hi, cond_true, inb_len hi, cond_true, cond_true, get_nat, ilt_dec40, cond_dec, ilt_dec40, cond_dec, wrap_succ (by omega)]
          generalize s.2.2.getD i dL = l
          by_cases y1 : l.2.1.length ≤ 40
          · by_cases y2 : l.2.2.length ≤ 40
            · rw [if_neg (fun z => z y1), if_neg (fun z => z y2), loop_all l.2.1.length (fun j => (l.2.1.getD j dF).2.2.length ≤ 40) (r := .inr (.inr false)) (by omega) ?_ ?_]
              · have e3 := forall_getD (l := l.2.1) dF (p := fun f => f.2.2.length ≤ 40)
                by_cases y3 : ∀ j, j < l.2.1.length → (l.2.1.getD j dF).2.2.length ≤ 40
                · rw [if_pos y3, if_pos (show SmallL l from ⟨y1, y2, e3.1 y3⟩)]
                · rw [if_neg y3, if_neg (fun z : SmallL l => y3 (e3.2 z.2.2))]
              · intro j hj
                try dsimp only
                rw [cond_true, ilt_len hj, cond_true, cond_true, inb_len hj, cond_true, get_nat, ilt_dec40, cond_dec, wrap_succ (by omega)]
                by_cases y3 : (l.2.1.getD j dF).2.2.length ≤ 40
                · rw [if_neg (fun z => z y3), if_pos y3]
                · rw [if_pos y3, if_neg y3]
              · try dsimp only
                rw [cond_true, ilt_end]; rfl
            · rw [if_neg (fun z => z y1), if_pos y2, if_neg (fun z : SmallL l => y2 z.2.1)]
          · rw [if_pos y1, if_neg (fun z : SmallL l => y1 z.1)]
        · try dsimp only
          rw [ilt_end]; rfl
      · intro i hi
        try dsimp only
        rw [ilt_len hi, cond_true, inb_len hi, cond_true, get_nat, ilt_dec40, cond_dec, wrap_succ (by omega)]
        by_cases y3 : (s.2.1.getD i dB).2.length ≤ 40
        · rw [if_neg (fun z => z y3), if_pos y3]
        · rw [if_pos y3, if_neg y3]
      · try dsimp only
        rw [ilt_end]; rfl
    · rw [if_neg (fun z => z q1), if_pos q2, decide_eq_false (fun z : SmallT s => q2 z.2.1)]
  · rw [if_pos q1, decide_eq_false (fun z : SmallT s => q1 z.1)]
def WithinT (a b : Sta) : Prop := MayS a ∧ MayS b ∧ (a.1 = true ∨ (b.1 = false ∧ (∀ v, v ∈ a.2.1 → Within v.2 (var b.2.1 v.1)) ∧ (∀ v, v ∈ b.2.1 → Within (var a.2.1 v.1) v.2) ∧ ∀ l, l ∈ a.2.2 → (locR b.2.2 l.1).2 = true ∧ WithinO l.2 (locR b.2.2 l.1).1))
instance (a b : Sta) : Decidable (WithinT a b) := by unfold WithinT; exact inferInstance
theorem var_few {s : Sta} (h : FewT s) (n : ByteArray) : (var s.2.1 n).length ≤ 100000 := by
  unfold var getV
  cases q : s.2.1.find? fun b => decide (b.1 = n) with
  | none => simp
  | some b => exact h.2.1 b (List.mem_of_find?_eq_some q)
end Go.PL
end
section
open Go Go.PG Go.PL
set_option linter.all false
namespace Go.PL
theorem loop_st {τ ρ σ : Type} (n : Nat) (s : Nat → τ) (s0 e : τ) {f : Int × τ → Option ((Int × τ) ⊕ (τ ⊕ ρ))} {A : τ → Option σ} {B : ρ → Option σ} (hn : n ≤ 1000000000) (h0 : s 0 = s0) (h1 : s n = e)
    (hs : ∀ i : Nat, i < n → f ((i : Int), s i) = some (.inl (((i + 1 : Nat) : Int), s (i + 1)))) (he : f ((n : Int), e) = some (.inr (.inl e))) :
    P.bind (P.iter K f (0, s0)) (P.either A B) = A e := by
  subst h0; subst h1
  exact loop_fold n s hn hs he
theorem ob_copy (o : Sp) (h : FewS o) : object_Copy K o = some o := by
  unfold object_Copy
  try dsimp only
  rw [at_clone K o.2 (by have := h.2.2; omega), bind_some, copy_run o.1 o.2 (by have := h.1; omega) _ (fun i hi => copy_step o.1 (by have := h.1; omega) h.2.1 o.2 i hi) (copy_end _ _ _), bind_some, either_inl]
def stg (v : List At) : Prop := (norm v).length = 1 ∧ ((norm v).getD 0 dA).1 = 4
instance (v : List At) : Decidable (stg v) := by unfold stg; exact inferInstance
def hits (v : List At) (x : At) : Prop := (6, 0) ∈ norm v ∨ x ∈ norm v
instance (v : List At) (x : At) : Decidable (hits v x) := by unfold hits; exact inferInstance
def wr (v : List At) (n : ByteArray) (w : List At) (o : Sp) : Sp := if stg v then strong o n w else weak o n w
theorem get_dL (l : List Lc) (i : Nat) : P.get l (i : Int) (((0 : Int), (0 : Int)), [], []) = l.getD i dL := get_nat _ _ _
end Go.PL
end
section
open Go Go.PG Go.PL
set_option linter.all false
namespace Go.PL
end Go.PL
end
section
open Go Go.PG Go.PL
set_option linter.all false
namespace Go.PL
theorem getL_mem {l : List Lc} {x : At} {b : Lc} (h : getL l x = some b) : b ∈ l ∧ b.1 = x := ⟨List.mem_of_find?_eq_some h, of_decide_eq_true (by have := List.find?_some h; exact this)⟩
end Go.PL
end
section
open Go Go.PG Go.PL
set_option linter.all false
namespace Go.PL
end Go.PL
end
section
open Go Go.PG Go.PL
set_option linter.all false
namespace Go.PL
structure Ord {κ : Type} (lt : κ → κ → Prop) : Prop where
  irr : ∀ a, ¬ lt a a
  tr : ∀ {a b c}, lt a b → lt b c → lt a c
  tri : ∀ a b, lt a b ∨ a = b ∨ lt b a
section
variable {α κ : Type} {lt : κ → κ → Prop} [DecidableRel lt] {key : α → κ}
end
instance : DecidableRel ltA := fun a b => by unfold ltA; exact inferInstance
end Go.PL
end
section
open Go Go.PG Go.PL
set_option linter.all false
namespace Go.PL
theorem map_some' {α β : Type} (f : α → β) (x : α) : P.map f (some x) = some (f x) := rfl
end Go.PL
end
section
open Go Go.PG Go.PL
set_option linter.all false
namespace Go.PL
theorem st_loc (s : Sta) (x : At) (h : FewT s) : state_Loc K (s, x) = some (locR s.2.2 x) := by
  unfold state_Loc
  try dsimp only
  have h3 := h.2.2.1
  rw [loop_find s.2.2 dL (fun b => b.1 = x) (fun b => (b.2, true)) (by omega) ?_ ?_]
  · unfold locR getL
    cases s.2.2.find? fun b => decide (b.1 = x) with
    | none => rfl
    | some b => rfl
  · intro i hi
    have hm := getD_mem hi dL
    try dsimp only
    rw [ilt_len hi, cond_true, inb_len hi, cond_true, get_dL, eqA_dec, cond_dec, wrap_succ (by omega)]
    by_cases q : (s.2.2.getD i dL).1 = x
    · rw [if_pos q, if_pos q, show P.ile (0 : Int) (i : Int) = true from ile_iff.2 (by omega), cond_true, cond_true, ob_copy _ (h.2.2.2 _ hm), bind_some, map_some']
    · rw [if_neg q, if_neg q]
  · try dsimp only
    rw [ilt_end]; rfl
end Go.PL
end
section
open Go Go.PG Go.PL
set_option linter.all false
namespace Go.PL
def renL (i : Int) (b : Lc) : Lc := (b.1, rename b.2 i)
def base (i : Int) (l : List Lc) : List Lc := (l.filter fun b => decide (b.1 ≠ (4, i))).map (renL i)
end Go.PL
end
section
open Go Go.PG Go.PL
set_option linter.all false
namespace Go.PL
end Go.PL
end
section
open Go Go.PG Go.PL
set_option linter.all false
namespace Go.PL
end Go.PL
end
section
open Go Go.PG Go.PL
set_option linter.all false
namespace Go.PL
def u9 : Sta := (false, [(⟨#[120]⟩, [(5, 0)])], [((5, 0), ([(⟨#[112]⟩, true, [(2, 0)])], [(0, 0)]))])
end Go.PL
end
section
open Go Go.PG Go.PL
set_option linter.all false
namespace Go.PL
end Go.PL
end
section
open Go Go.PG Go.PL
set_option linter.all false
namespace Go.PL
end Go.PL
end
section
open Go Go.PG Go.PL
set_option linter.all false
namespace Go.PL
def SpeakL (x : At) (l : Lc) : Prop := l.1 = x ∨ x ∈ l.2.2 ∨ ∃ f, f ∈ l.2.1 ∧ x ∈ f.2.2
instance (x : At) (l : Lc) : Decidable (SpeakL x l) := by unfold SpeakL; exact inferInstance
def Speaks (s : Sta) (x : At) : Prop := (∃ b, b ∈ s.2.1 ∧ x ∈ b.2) ∨ ∃ l, l ∈ s.2.2 ∧ SpeakL x l
instance (s : Sta) (x : At) : Decidable (Speaks s x) := by unfold Speaks; exact inferInstance
end Go.PL
end
section
open Go Go.PG Go.PL
set_option linter.all false
namespace Go.PL
end Go.PL
end
section
open Go Go.PG Go.PL
set_option linter.all false
namespace Go.PL
def both (a b : List Bv) (n : ByteArray) : List At := norm (var a n ++ var b n)
end Go.PL
end
section
open Go Go.PG Go.PL
set_option linter.all false
namespace Go.PL
end Go.PL
end
section
open Go Go.PG Go.PL
set_option linter.all false
namespace Go.PL
end Go.PL
end
section
open Go Go.PG Go.PL
set_option linter.all false
namespace Go.PL
end Go.PL
end
section
open Go Go.PG Go.PL
set_option linter.all false
namespace Go.PL
end Go.PL
end
section
open Go Go.PG Go.PL
set_option linter.all false
namespace Go.PL
def nx (T : List Lc) (n : ByteArray) (x : At) : List At := if PlaceA x ∧ (locR T x).2 = true ∧ su (locR T x).1.1 n = false then (locR T x).1.2 else []
inductive Rch (T : List Lc) (n : ByteArray) (v : List At) : At → Prop
  | base {y : At} : y ∈ v → RightA y → Rch T n v y
  | step {x y : At} : Rch T n v x → y ∈ nx T n x → RightA y → Rch T n v y
theorem Rch.right {T : List Lc} {n : ByteArray} {v : List At} {y : At} (h : Rch T n v y) : RightA y := by cases h <;> assumption
def allA (T : List Lc) (v : List At) : List At := v ++ T.flatMap fun l => l.2.2
theorem nx_mem {T : List Lc} {n : ByteArray} {x y : At} (h : y ∈ nx T n x) : ∃ l, l ∈ T ∧ l.1 = x ∧ y ∈ l.2.2 ∧ locR T x = (l.2, true) := by
  unfold nx at h
  split at h
  · rename_i q
    unfold locR at q h ⊢
    cases g : getL T x with
    | none => rw [g] at h; simp at h
    | some b =>
      rw [g] at h
      obtain ⟨h1, h2⟩ := getL_mem g
      exact ⟨b, h1, h2, h, rfl⟩
  · cases h
theorem Rch.all {T : List Lc} {n : ByteArray} {v : List At} {y : At} (h : Rch T n v y) : y ∈ allA T v := by
  unfold allA
  cases h with
  | base h1 _ => exact List.mem_append_left _ h1
  | step _ h2 _ =>
    obtain ⟨l, h1, _, h3, _⟩ := nx_mem h2
    exact List.mem_append_right _ (List.mem_flatMap.2 ⟨l, h1, h3⟩)
end Go.PL
end
section
open Go Go.PG Go.PL
set_option linter.all false
namespace Go.PL
end Go.PL
end
section
open Go Go.PG Go.PL
set_option linter.all false
namespace Go.PL
def hp (T : List Lc) (n : ByteArray) (x : At) : Bool := decide (PlaceA x) && pr (locR T x).1.1 n
end Go.PL
end
section
open Go Go.PG Go.PL
set_option linter.unusedVariables false
namespace Go.PL.Sto
abbrev Val := Int × Int
abbrev Prp := ByteArray × Val
abbrev Ob := List Prp × Val
def Right (n : Nat) (v : Val) : Prop := (v.1 = 0 ∧ v.2 = 0) ∨ (v.1 = 1 ∧ (v.2 = 0 ∨ v.2 = 1)) ∨ v.1 = 2 ∨ (v.1 = 3 ∧ 0 ≤ v.2) ∨ (v.1 = 4 ∧ 0 ≤ v.2 ∧ v.2 < n)
instance (n : Nat) (v : Val) : Decidable (Right n v) := by unfold Right; exact inferInstance
theorem ref_right (k : Nat) (s : List Ob) (v : Val) : ref19_Right k (s, v) = some (decide (Right s.length v)) := by
  obtain ⟨a, b⟩ := v
  unfold ref19_Right
  dsimp only
  simp only [cond_eq, ieq_iff, ile_iff, ilt_iff, len_eq]
  repeat' split
  all_goals
    rw [Option.some.injEq, Bool.eq_iff_iff, decide_eq_true_eq]
    simp only [Right, ieq_iff, ile_iff, ilt_iff, true_iff, Bool.false_eq_true, false_iff]
    omega
theorem st_right (k : Nat) (s : List Ob) (v : Val) : store_Right k (s, v) = some (decide (Right s.length v)) := by
  obtain ⟨a, b⟩ := v
  unfold store_Right
  dsimp only
  simp only [cond_eq, ieq_iff, ile_iff, ilt_iff, len_eq]
  repeat' split
  all_goals
    rw [Option.some.injEq, Bool.eq_iff_iff, decide_eq_true_eq]
    simp only [Right, ieq_iff, ile_iff, ilt_iff, true_iff, Bool.false_eq_true, false_iff]
    omega
abbrev dP : Prp := (⟨#[]⟩, 0, 0)
abbrev dO : Ob := ([], 0, 0)
def PropOk (n : Nat) (l : List Prp) (i : Nat) : Prop := Right n (l.getD i dP).2 ∧ (0 < i → ltS (l.getD (i - 1) dP).1 (l.getD i dP).1)
instance (n : Nat) (l : List Prp) (i : Nat) : Decidable (PropOk n l i) := by unfold PropOk; exact inferInstance
def ProtoOk (i : Nat) (v : Val) : Prop := (v.1 = 0 ∧ v.2 = 0) ∨ (v.1 = 4 ∧ 0 ≤ v.2 ∧ v.2 < i)
instance (i : Nat) (v : Val) : Decidable (ProtoOk i v) := by unfold ProtoOk; exact inferInstance
def ObOk (n i : Nat) (o : Ob) : Prop := (∀ k, k < o.1.length → PropOk n o.1 k) ∧ ProtoOk i o.2
instance (n i : Nat) (o : Ob) : Decidable (ObOk n i o) := by unfold ObOk; exact inferInstance
def MayS (s : List Ob) : Prop := ∀ i, i < s.length → ObOk s.length i (s.getD i dO)
instance (s : List Ob) : Decidable (MayS s) := by unfold MayS; exact inferInstance
def Fits (s : List Ob) : Prop := s.length < 9223372036854775808 ∧ ∀ i, i < s.length → (s.getD i dO).1.length < 9223372036854775808
theorem ref_may (s : List Ob) (hf : Fits s) : ref19_May K s = some (decide (MayS s)) := by
  unfold ref19_May
  rw [iter_all (n := s.length) (e := .inl ()) (r := .inr false) (fun i => ObOk s.length i (s.getD i dO)) K ?_ ?_ (by have := hf.1; unfold K; omega)]
  · rw [bind_some]
    have : (∀ i, i < s.length → ObOk s.length i (s.getD i dO)) ↔ MayS s := Iff.rfl
    by_cases h : MayS s
    · rw [if_pos (this.2 h)]; simp [h, either_inl]
    · rw [if_neg (fun q => h (this.1 q))]; simp [h, either_inr]
  · intro i hi
    have hl := hf.2 i hi
    simp only [cond_eq, ilt_iff, inb_iff, len_eq, get_nat]
    rw [if_pos (by omega), if_pos (by omega)]
    generalize ho : s.getD i dO = o at *
    rw [iter_all (n := o.1.length) (e := .inl ()) (r := .inr (.inr (.inr false))) (fun j => PropOk s.length o.1 j) K ?_ ?_ (by unfold K; omega)]
    · rw [bind_some]
      have e1 : (∀ j, j < o.1.length → PropOk s.length o.1 j) ∧ ProtoOk i o.2 ↔ ObOk s.length i o := Iff.rfl
      by_cases h : ∀ j, j < o.1.length → PropOk s.length o.1 j
      · rw [if_pos h, either_inl]
        simp only [not_iff, and_iff, ieq_iff, ile_iff]
        rw [wrap_succ (by have := hf.1; omega)]
        have e2 : ObOk s.length i o ↔ ProtoOk i o.2 := ⟨fun q => q.2, fun q => ⟨h, q⟩⟩
        simp only [e2, ProtoOk]
        repeat' split
        all_goals first
          | rfl
          | (exfalso; omega)
      · rw [if_neg h, either_inr]
        have : ¬ ObOk s.length i o := fun q => h q.1
        simp [this]
    · intro j hj
      rw [if_pos (by omega), if_pos ⟨by omega, by omega⟩, ref_right, bind_some]
      simp only [not_iff, decide_eq_true_eq, get_nat]
      rw [wrap_succ (by omega)]
      by_cases h : Right s.length (o.1.getD j dP).2
      · rw [if_neg (not_not_intro h)]
        by_cases h0 : 0 < j
        · rw [if_pos (by omega), wrap_pred h0 (by omega), if_pos ⟨by omega, by omega⟩, if_pos ⟨by omega, by omega⟩]
          simp only [get_nat, slt_iff]
          by_cases h2 : ltS (o.1.getD (j - 1) dP).1 (o.1.getD j dP).1
          · rw [if_neg (not_not_intro h2), if_pos (show PropOk s.length o.1 j from ⟨h, fun _ => h2⟩)]
          · rw [if_pos h2, if_neg (show ¬ PropOk s.length o.1 j from fun q => h2 (q.2 h0))]
        · rw [if_neg (by omega), if_pos (show PropOk s.length o.1 j from ⟨h, fun q => absurd q h0⟩)]
      · rw [if_pos h, if_neg (show ¬ PropOk s.length o.1 j from fun q => h q.1)]
    · rw [if_neg (by omega)]
  · simp only [cond_eq, ilt_iff, len_eq]
    rw [if_neg (by omega)]
theorem st_may (s : List Ob) (hf : Fits s) : store_May K s = some (decide (MayS s)) := by
  unfold store_May
  rw [iter_all (n := s.length) (e := .inl ()) (r := .inr false) (fun i => ObOk s.length i (s.getD i dO)) K ?_ ?_ (by have := hf.1; unfold K; omega)]
  · rw [bind_some]
    have : (∀ i, i < s.length → ObOk s.length i (s.getD i dO)) ↔ MayS s := Iff.rfl
    by_cases h : MayS s
    · rw [if_pos (this.2 h)]; simp [h, either_inl]
    · rw [if_neg (fun q => h (this.1 q))]; simp [h, either_inr]
  · intro i hi
    have hl := hf.2 i hi
    simp only [cond_eq, ilt_iff, inb_iff, len_eq, get_nat]
    rw [if_pos (by omega), if_pos (by omega)]
    generalize ho : s.getD i dO = o at *
    rw [iter_all (n := o.1.length) (e := .inl ()) (r := .inr (.inr (.inr false))) (fun j => PropOk s.length o.1 j) K ?_ ?_ (by unfold K; omega)]
    · rw [bind_some]
      have e1 : (∀ j, j < o.1.length → PropOk s.length o.1 j) ∧ ProtoOk i o.2 ↔ ObOk s.length i o := Iff.rfl
      by_cases h : ∀ j, j < o.1.length → PropOk s.length o.1 j
      · rw [if_pos h, either_inl]
        simp only [not_iff, and_iff, ieq_iff, ile_iff]
        rw [wrap_succ (by have := hf.1; omega)]
        have e2 : ObOk s.length i o ↔ ProtoOk i o.2 := ⟨fun q => q.2, fun q => ⟨h, q⟩⟩
        simp only [e2, ProtoOk]
        repeat' split
        all_goals first
          | rfl
          | (exfalso; omega)
      · rw [if_neg h, either_inr]
        have : ¬ ObOk s.length i o := fun q => h q.1
        simp [this]
    · intro j hj
      rw [if_pos (by omega), if_pos ⟨by omega, by omega⟩, st_right, bind_some]
      simp only [not_iff, decide_eq_true_eq, get_nat]
      rw [wrap_succ (by omega)]
      by_cases h : Right s.length (o.1.getD j dP).2
      · rw [if_neg (not_not_intro h)]
        by_cases h0 : 0 < j
        · rw [if_pos (by omega), wrap_pred h0 (by omega), if_pos ⟨by omega, by omega⟩]
          simp only [get_nat, slt_iff]
          by_cases h2 : ltS (o.1.getD (j - 1) dP).1 (o.1.getD j dP).1
          · rw [if_neg (not_not_intro h2), if_pos (show PropOk s.length o.1 j from ⟨h, fun _ => h2⟩)]
          · rw [if_pos h2, if_neg (show ¬ PropOk s.length o.1 j from fun q => h2 (q.2 h0))]
        · rw [if_neg (by omega), if_pos (show PropOk s.length o.1 j from ⟨h, fun q => absurd q h0⟩)]
      · rw [if_pos h, if_neg (show ¬ PropOk s.length o.1 j from fun q => h q.1)]
    · rw [if_neg (by omega)]
  · simp only [cond_eq, ilt_iff, len_eq]
    rw [if_neg (by omega)]
def ownM (l : List Prp) (name : ByteArray) : Option Val := (List.range l.length).findSome? fun i => if (l.getD i dP).1 = name then some (l.getD i dP).2 else none
def tell (o : Option Val) : Val × Bool := match o with
  | some w => (w, true)
  | none => ((0, 0), false)
theorem ref_own (o : Ob) (name : ByteArray) (hl : o.1.length < 9223372036854775808) : ref19_own K (o, name) = some (tell (ownM o.1 name)) := by
  unfold ref19_own
  dsimp only
  rw [iter_find0 (n := o.1.length) (e := .inl ()) (fun i => if (o.1.getD i dP).1 = name then some (Sum.inr ((o.1.getD i dP).2, true)) else none) K ?_ ?_ (by unfold K; omega)]
  · rw [bind_some]
    have : (List.range o.1.length).findSome? (fun i => if (o.1.getD i dP).1 = name then some (Sum.inr (α := PUnit) ((o.1.getD i dP).2, true)) else none) = (ownM o.1 name).map fun w => Sum.inr (w, true) := by
      unfold ownM
      rw [List.map_findSome?]
      congr 1
      funext i
      simp only [Function.comp]
      split <;> rfl
    rw [this]
    cases ownM o.1 name <;> rfl
  · intro i hi
    simp only [cond_eq, ilt_iff, inb_iff, len_eq, get_nat, seq_iff]
    rw [if_pos (by omega), if_pos ⟨by omega, by omega⟩, wrap_succ (by omega)]
    by_cases h : (o.1.getD i dP).1 = name
    · rw [if_pos h, if_pos ⟨by omega, by omega⟩, if_pos h]
    · rw [if_neg h, if_neg h]
  · simp only [cond_eq, ilt_iff, len_eq]
    rw [if_neg (by omega)]
def Srt (l : List Prp) : Prop := ∀ i, 0 < i → i < l.length → ltS (l.getD (i - 1) dP).1 (l.getD i dP).1
theorem Srt.lt {l : List Prp} (h : Srt l) : ∀ (j i : Nat), i < j → j < l.length → ltS (l.getD i dP).1 (l.getD j dP).1 := by
  intro j
  induction j with
  | zero => intro i hi; omega
  | succ j ih =>
    intro i hi hj
    have h1 := h (j + 1) (by omega) hj
    rw [Nat.add_sub_cancel] at h1
    rcases Nat.lt_or_ge i j with q | q
    · exact ltS_trans (ih i q (by omega)) h1
    · have : i = j := by omega
      subst this; exact h1
theorem exists_z (l : List Prp) (name : ByteArray) (hs : Srt l) : ∃ z, z ≤ l.length ∧ (∀ t, t < z → ltS (l.getD t dP).1 name) ∧ (∀ t, z ≤ t → t < l.length → ¬ ltS (l.getD t dP).1 name) := by
  have : ∀ n, n ≤ l.length → ∃ z, z ≤ n ∧ (∀ t, t < z → ltS (l.getD t dP).1 name) ∧ (∀ t, z ≤ t → t < n → ¬ ltS (l.getD t dP).1 name) := by
    intro n
    induction n with
    | zero => intro _; exact ⟨0, Nat.le_refl _, fun t ht => by omega, fun t _ ht => by omega⟩
    | succ n ih =>
      intro hn
      obtain ⟨z, h1, h2, h3⟩ := ih (by omega)
      by_cases q : z = n
      · by_cases p : ltS (l.getD n dP).1 name
        · refine ⟨n + 1, Nat.le_refl _, fun t ht => ?_, fun t h4 h5 => by omega⟩
          rcases Nat.lt_or_ge t n with w | w
          · exact h2 t (by omega)
          · have : t = n := by omega
            subst this; exact p
        · refine ⟨n, by omega, fun t ht => h2 t (by omega), fun t h4 h5 => ?_⟩
          have : t = n := by omega
          subst this; exact p
      · refine ⟨z, by omega, h2, fun t h4 h5 => ?_⟩
        rcases Nat.lt_or_ge t n with w | w
        · exact h3 t h4 w
        · have : t = n := by omega
          subst this
          exact fun p => h3 z (Nat.le_refl _) (by omega) (ltS_trans (hs.lt t z (by omega) (by omega)) p)
  exact this l.length (Nat.le_refl _)
open Classical in
noncomputable def zOf (l : List Prp) (name : ByteArray) : Nat := if hs : Srt l then Classical.choose (exists_z l name hs) else 0
def lookM (s : List Ob) (name : ByteArray) : Nat → Val → Option Val
  | 0, _ => none
  | m + 1, v => if v.1 = 4 ∧ Right s.length v then match ownM (s.getD v.2.toNat dO).1 name with
      | some w => some w
      | none => lookM s name m (s.getD v.2.toNat dO).2
    else none
def getM (s : List Ob) (v : Val) (name : ByteArray) : Option Val := if MayS s then lookM s name (s.length + 1) v else none
theorem right4 {n : Nat} {v : Val} (h4 : v.1 = 4) (h : Right n v) : 0 ≤ v.2 ∧ v.2 < n := by
  unfold Right at h; omega
theorem look_loop (s : List Ob) (name : ByteArray) (hf : Fits s) (hm : MayS s) {f : Val → Option (Val ⊕ (PUnit ⊕ (Val × Bool)))} (h1 : ∀ v : Val, ¬ (v.1 = 4 ∧ Right s.length v) → f v = some (.inr (.inl ())))
    (h2 : ∀ v : Val, v.1 = 4 → Right s.length v → f v = some (match ownM (s.getD v.2.toNat dO).1 name with
      | some w => .inr (.inr (w, true))
      | none => .inl (s.getD v.2.toNat dO).2)) (v : Val) : P.iter K f v = some (match lookM s name (s.length + 1) v with
      | some w => .inr (w, true)
      | none => .inl ()) := by
  have key : ∀ (m k : Nat) (v : Val), (v.1 = 4 → Right s.length v → v.2 < m) → m < k → P.iter k f v = some (match lookM s name (m + 1) v with
      | some w => .inr (w, true)
      | none => .inl ()) := by
    intro m
    induction m with
    | zero =>
      intro k v hv hk
      have hno : ¬ (v.1 = 4 ∧ Right s.length v) := fun ⟨a, b⟩ => by have := hv a b; have := right4 a b; omega
      rw [iter_done (by omega) (h1 v hno), lookM, if_neg hno]
    | succ m ih =>
      intro k v hv hk
      by_cases h : v.1 = 4 ∧ Right s.length v
      · have hr := right4 h.1 h.2
        have hlt : v.2.toNat < s.length := by omega
        have hp := (hm v.2.toNat hlt).2
        have hstep := h2 v h.1 h.2
        rw [lookM, if_pos h]
        cases q : ownM (s.getD v.2.toNat dO).1 name with
        | some w =>
          rw [q] at hstep
          rw [iter_done (by omega) hstep]
        | none =>
          rw [q] at hstep
          rw [iter_step (by omega) hstep]
          refine ih (k - 1) _ (fun a b => ?_) (by omega)
          have := hv h.1 h.2
          unfold ProtoOk at hp
          omega
      · rw [iter_done (by omega) (h1 v h), lookM, if_neg h]
  exact key s.length K v (fun a b => (right4 a b).2) (by have := hf.1; unfold K; omega)
theorem ref_get (s : List Ob) (v : Val) (name : ByteArray) (hf : Fits s) : ref19_Get K (s, v, name) = some (tell (getM s v name)) := by
  unfold ref19_Get
  dsimp only
  rw [ref_may s hf, bind_some]
  unfold getM
  by_cases hm : MayS s
  · rw [if_pos hm]
    simp only [hm, decide_true]
    rw [look_loop s name hf hm ?_ ?_]
    · rw [cond_eq, if_neg (by simp [P.not]), bind_some]
      cases lookM s name (s.length + 1) v <;> rfl
    · intro v hv
      simp only [cond_eq, ieq_iff]
      by_cases h4 : v.1 = 4
      · rw [if_pos h4, ref_right, bind_some, if_neg (by simpa using fun q => hv ⟨h4, q⟩)]
      · rw [if_neg h4]
    · intro v h4 hr
      have hb := right4 h4 hr
      have hlt : v.2.toNat < s.length := by omega
      have e : (v.2.toNat : Int) = v.2 := by omega
      have hl := hf.2 _ hlt
      simp only [cond_eq, ieq_iff, inb_iff, len_eq]
      rw [if_pos h4, ref_right, bind_some, if_pos (by simpa using hr), if_pos ⟨by omega, by omega⟩, if_pos ⟨by omega, by omega⟩]
      have hg : P.get s v.2 (([], 0, 0) : Ob) = s.getD v.2.toNat dO := rfl
      rw [hg, ref_own _ _ hl, bind_some]
      cases ownM (s.getD v.2.toNat dO).1 name <;> rfl
  · rw [if_neg hm]
    simp only [hm, decide_false]
    rfl
end Go.PL.Sto
end
section
open Go Go.PG Go.PL
set_option linter.unusedVariables false
set_option linter.unusedSimpArgs false
namespace Go.PL.Sto
noncomputable def zBk (l : List Prp) (nm : ByteArray) : Nat := if zOf l nm < l.length ∧ (l.getD (zOf l nm) dP).1 = nm then zOf l nm + 1 else zOf l nm
noncomputable def withM (l : List Prp) (nm : ByteArray) (w : Val) : List Prp := l.take (zOf l nm) ++ (nm, w) :: l.drop (zBk l nm)
theorem range_findSome {α β : Type} (d : α) (g : α → Option β) : ∀ l : List α, (List.range l.length).findSome? (fun i => g (l.getD i d)) = l.findSome? g
  | [] => rfl
  | a :: l => by
    rw [List.length_cons, List.range_succ_eq_map, List.findSome?_cons, List.findSome?_cons]
    have : (List.map Nat.succ (List.range l.length)).findSome? (fun i => g ((a :: l).getD i d)) = l.findSome? g := by
      rw [List.findSome?_map, ← range_findSome d g l]
      rfl
    rw [this]
    rfl
theorem getD_mem {α : Type} {l : List α} {i : Nat} (h : i < l.length) (d : α) : l.getD i d ∈ l := by
  rw [List.getD_eq_getElem?_getD, List.getElem?_eq_getElem h]; exact List.getElem_mem h
theorem mem_getD {α : Type} {l : List α} {a : α} (h : a ∈ l) (d : α) : ∃ i, i < l.length ∧ l.getD i d = a := by
  obtain ⟨i, hi, e⟩ := List.getElem_of_mem h
  exact ⟨i, hi, by rw [List.getD_eq_getElem?_getD, List.getElem?_eq_getElem hi]; exact e⟩
def newM (s : List Ob) (o : Ob) : List Ob × Val × Bool := if MayS (s ++ [o]) then (s ++ [o], (4, (s.length : Int)), true) else ([], (0, 0), false)
noncomputable def setS (s : List Ob) (i : Nat) (nm : ByteArray) (w : Val) : List Ob := s.set i (withM (s.getD i dO).1 nm w, (s.getD i dO).2)
end Go.PL.Sto
end
section
open Go Go.PG Go.PL
set_option linter.all false
namespace Go.PL.Cf
open Go.PL.Sto (Val Prp Ob dP dO Right)
abbrev Fr := List Prp × List Int × List (List Int)
def FewF (f : Fr) : Prop := f.1.length ≤ 100000 ∧ f.2.1.length ≤ 100000 ∧ f.2.2.length ≤ 100000 ∧ ∀ l, l ∈ f.2.2 → l.length ≤ 100000
theorem loop_any {α ρ σ : Type} (l : List α) (d : α) (q : α → Prop) [DecidablePred q] (r : ρ) {f : Int → Option (Int ⊕ (Unit ⊕ ρ))} {A : Option σ} {B : ρ → Option σ} (hn : l.length ≤ 1000000000)
    (hs : ∀ i : Nat, i < l.length → f (i : Int) = some (if q (l.getD i d) then .inr (.inr r) else .inl ((i + 1 : Nat) : Int))) (he : f (l.length : Int) = some (.inr (.inl ()))) :
    P.bind (P.iter K f 0) (P.either (fun (_ : Unit) => A) B) = if (l.any fun x => decide (q x)) = true then B r else A := by
  rw [loop_find l d q (fun _ => r) hn hs he]
  cases h : l.find? fun x => decide (q x) with
  | none =>
    rw [if_neg]
    rw [List.any_eq_true]
    rintro ⟨x, hx, hq⟩
    have := List.find?_eq_none.1 h x hx
    exact this hq
  | some x =>
    rw [if_pos]
    rw [List.any_eq_true]
    exact ⟨x, List.mem_of_find?_eq_some h, by simpa using List.find?_some h⟩
theorem loop_every {α ρ σ : Type} (l : List α) (d : α) (q : α → Prop) [DecidablePred q] (r : ρ) {f : Int → Option (Int ⊕ (Unit ⊕ ρ))} {A : Option σ} {B : ρ → Option σ} (hn : l.length ≤ 1000000000)
    (hs : ∀ i : Nat, i < l.length → f (i : Int) = some (if q (l.getD i d) then .inl ((i + 1 : Nat) : Int) else .inr (.inr r))) (he : f (l.length : Int) = some (.inr (.inl ()))) :
    P.bind (P.iter K f 0) (P.either (fun (_ : Unit) => A) B) = if (l.all fun x => decide (q x)) = true then A else B r := by
  rw [loop_all l.length (fun i => q (l.getD i d)) hn hs he]
  by_cases h : (l.all fun x => decide (q x)) = true
  · rw [if_pos h, if_pos]
    intro i hi
    simpa using List.all_eq_true.1 h _ (getD_mem hi d)
  · rw [if_neg h, if_neg]
    intro q'
    apply h
    rw [List.all_eq_true]
    intro x hx
    simpa using (forall_getD d).1 q' x hx
def ofB (f : Fr) (v : Val) (x : At) : Bool :=
  if x.1 = 0 then decide (v.1 = 0) else if x.1 = 1 then decide (v.1 = 1) else if x.1 = 2 then decide (v.1 = 2) else if x.1 = 3 then decide (v.1 = 3 ∧ v.2 = x.2)
  else if x.1 = 4 then decide (v.1 = 4 ∧ 0 ≤ x.2 ∧ x.2 < f.2.1.length ∧ 0 ≤ f.2.1.getD x.2.toNat 0 ∧ f.2.1.getD x.2.toNat 0 = v.2)
  else if x.1 = 5 then decide (v.1 = 4 ∧ 0 ≤ x.2 ∧ x.2 < f.2.2.length ∧ v.2 ∈ f.2.2.getD x.2.toNat []) else decide (x.1 = 6)
def valB (f : Fr) (v : Val) (a : List At) : Bool := a.any (ofB f v)
theorem at_newest (k : Nat) (f : Fr) (x : Int) : conform_newest k (f, x) = some (if 0 ≤ x ∧ x < f.2.1.length then f.2.1.getD x.toNat 0 else -1) := by
  unfold conform_newest
  try dsimp only
  rw [ilt_dec, cond_dec, ile_dec, cond_dec, len_eq]
  by_cases h : x < 0
  · rw [if_pos h, if_neg (by omega)]
  · rw [if_neg h]
    by_cases h2 : (f.2.1.length : Int) ≤ x
    · rw [if_pos h2, if_neg (by omega)]
    · rw [if_neg h2, if_pos (by omega)]
      rw [show P.inb x (f.2.1.length : Int) = true by unfold P.inb; simp; omega, cond_true]
      rfl
theorem older_few {f : Fr} (h : FewF f) (i : Nat) : (f.2.2.getD i []).length ≤ 100000 := by
  by_cases hi : i < f.2.2.length
  · exact h.2.2.2 _ (getD_mem hi [])
  · rw [List.getD_eq_getElem?_getD, List.getElem?_eq_none (by omega)]; simp
theorem has_loop {ρ σ : Type} (l : List Int) (v : Int) (hl : l.length ≤ 100000) {f : Int → Option (Int ⊕ (Unit ⊕ ρ))} {A : Option σ} {B : ρ → Option σ} {r : ρ}
    (hs : ∀ i : Nat, i < l.length → f (i : Int) = some (if v = l.getD i 0 then .inr (.inr r) else .inl ((i + 1 : Nat) : Int))) (he : f (l.length : Int) = some (.inr (.inl ()))) :
    P.bind (P.iter K f 0) (P.either (fun (_ : Unit) => A) B) = if v ∈ l then B r else A := by
  rw [loop_any l 0 (fun x => v = x) r (by omega) hs he]
  by_cases h : v ∈ l
  · rw [if_pos h, if_pos]
    rw [List.any_eq_true]
    exact ⟨v, h, by simp⟩
  · rw [if_neg h, if_neg]
    rw [List.any_eq_true]
    rintro ⟨x, hx, q⟩
    simp only [decide_eq_true_eq] at q
    exact h (q ▸ hx)
theorem ile_nat (i : Nat) : P.ile 0 (i : Int) = true := by rw [ile_dec]; simp
theorem at_of (f : Fr) (v : Val) (x : At) (h : FewF f) : conform_of K (f, v, x) = some (ofB f v x) := by
  unfold conform_of ofB
  try dsimp only
  simp only [ieq_eq, cond_dec]
  by_cases h0 : x.1 = 0
  · rw [if_pos h0, if_pos h0]
  rw [if_neg h0, if_neg h0]
  by_cases h1 : x.1 = 1
  · rw [if_pos h1, if_pos h1]
  rw [if_neg h1, if_neg h1]
  by_cases h2 : x.1 = 2
  · rw [if_pos h2, if_pos h2]
  rw [if_neg h2, if_neg h2]
  by_cases h3 : x.1 = 3
  · rw [if_pos h3, if_pos h3]
    congr 1
    rw [Bool.eq_iff_iff, and_iff]
    simp
  rw [if_neg h3, if_neg h3]
  by_cases h4 : x.1 = 4
  · rw [if_pos h4, if_pos h4]
    by_cases c : v.1 = 4
    · rw [if_pos c, at_newest, bind_some, bind_some, ile_dec, cond_dec]
      by_cases b : 0 ≤ x.2 ∧ x.2 < f.2.1.length
      · rw [if_pos b]
        by_cases n : 0 ≤ f.2.1.getD x.2.toNat 0
        · rw [if_pos n]
          congr 1
          rw [Bool.eq_iff_iff, decide_eq_true_eq, decide_eq_true_eq]
          exact ⟨fun q => ⟨c, b.1, b.2, n, q⟩, fun q => q.2.2.2.2⟩
        · rw [if_neg n]
          congr 1
          symm
          rw [decide_eq_false_iff_not]
          exact fun q => n q.2.2.2.1
      · rw [if_neg b, if_neg (by decide)]
        congr 1
        symm
        rw [decide_eq_false_iff_not]
        exact fun q => b ⟨q.2.1, q.2.2.1⟩
    · rw [if_neg c]
      congr 1
      symm
      rw [decide_eq_false_iff_not]
      exact fun q => c q.1
  rw [if_neg h4, if_neg h4]
  by_cases h5 : x.1 = 5
  · rw [if_pos h5, if_pos h5]
    by_cases c : v.1 = 4
    · rw [if_pos c, ile_dec, cond_dec, ilt_dec, cond_dec, len_eq]
      by_cases b : 0 ≤ x.2
      · rw [if_pos b]
        by_cases b2 : x.2 < f.2.2.length
        · rw [if_pos b2, show P.inb x.2 (f.2.2.length : Int) = true by unfold P.inb; simp; omega, cond_true]
          rw [has_loop (f.2.2.getD x.2.toNat []) v.2 (older_few h _) (r := true) ?_ ?_]
          · by_cases m : v.2 ∈ f.2.2.getD x.2.toNat []
            · rw [if_pos m]
              congr 1
              symm
              rw [decide_eq_true_eq]
              exact ⟨c, b, b2, m⟩
            · rw [if_neg m]
              congr 1
              symm
              show decide _ = false
              rw [decide_eq_false_iff_not]
              exact fun q => m q.2.2.2
          · intro i hi
            try dsimp only
            rw [show P.get f.2.2 x.2 [] = f.2.2.getD x.2.toNat [] from rfl, ilt_len hi, cond_true, inb_len hi, cond_true, get_nat, wrap_succ (by have := older_few h x.2.toNat; omega), ile_nat]
            split <;> rfl
          · try dsimp only
            rw [show P.get f.2.2 x.2 [] = f.2.2.getD x.2.toNat [] from rfl, ilt_end]
            rfl
        · rw [if_neg b2]
          congr 1
          symm
          rw [decide_eq_false_iff_not]
          exact fun q => b2 q.2.2.1
      · rw [if_neg b]
        congr 1
        symm
        rw [decide_eq_false_iff_not]
        exact fun q => b q.2.1
    · rw [if_neg c]
      congr 1
      symm
      rw [decide_eq_false_iff_not]
      exact fun q => c q.1
  rw [if_neg h5, if_neg h5]
theorem any_if {σ : Type} (l : List At) (p : At → Bool) (X Y : σ) : (if (l.any fun x => decide (p x = true)) = true then X else Y) = if l.any p = true then X else Y := by
  have : (l.any fun x => decide (p x = true)) = l.any p := by congr 1; funext x; simp
  rw [this]
theorem at_value (f : Fr) (v : Val) (a : List At) (h : FewF f) (ha : a.length ≤ 1000000) : conform_Value K (f, v, a) = some (valB f v a) := by
  unfold conform_Value
  try dsimp only
  rw [loop_any a dA (fun x => ofB f v x = true) true (by omega) ?_ ?_]
  · rw [any_if]
    unfold valB
    cases a.any (ofB f v) <;> rfl
  · intro i hi
    try dsimp only
    rw [ilt_len hi, cond_true, inb_len hi, cond_true, get_nat, at_of f v _ h, bind_some, ile_nat, wrap_succ (by omega)]
    cases ofB f v (a.getD i dA) <;> rfl
  · try dsimp only
    rw [ilt_end]
    rfl
theorem ref_value (f : Fr) (v : Val) (a : List At) (h : FewF f) (ha : a.length ≤ 1000000) : ref21_Value K (f, v, a) = some (valB f v a) := by
  unfold ref21_Value
  try dsimp only
  rw [loop_any a dA (fun x => ofB f v x = true) true (by omega) ?_ ?_]
  · rw [any_if]
    unfold valB
    cases a.any (ofB f v) <;> rfl
  · intro i hi
    try dsimp only
    rw [ilt_len hi, cond_true, inb_len hi, cond_true]
    have hw : P.wrap IntKind.i64 (P.add (i : Int) 1) = ((i + 1 : Nat) : Int) := wrap_succ (by omega)
    simp only [get_nat, hw]
    generalize a.getD i dA = x
    generalize ((i + 1 : Nat) : Int) = L
    rw [has_loop (f.2.2.getD x.2.toNat []) v.2 (older_few h _) (r := Sum.inr (Sum.inr true)) ?_ ?_]
    · simp only [ieq_eq, ile_dec, ilt_dec, cond_dec, len_eq]
      unfold ofB
      by_cases h0 : x.1 = 0
      · simp only [h0, if_true, decide_eq_true_eq]
        split <;> rfl
      by_cases h1 : x.1 = 1
      · simp only [h1, if_true, decide_eq_true_eq]
        simp
        split <;> rfl
      by_cases h2 : x.1 = 2
      · simp only [h2, if_true, decide_eq_true_eq]
        simp
        split <;> rfl
      by_cases h3 : x.1 = 3
      · simp only [h3, if_true, decide_eq_true_eq]
        simp
        by_cases q1 : v.1 = 3
        · by_cases q2 : v.2 = x.2 <;> simp [q1, q2]
        · simp [q1]
      by_cases h4 : x.1 = 4
      · simp only [h4, if_true, decide_eq_true_eq]
        simp
        by_cases q1 : v.1 = 4
        · by_cases q2 : 0 ≤ x.2
          · by_cases q3 : x.2 < f.2.1.length
            · have e : P.inb x.2 (f.2.1.length : Int) = true := by unfold P.inb; simp; omega
              rw [e]
              by_cases q4 : 0 ≤ f.2.1.getD x.2.toNat 0
              · by_cases q5 : f.2.1.getD x.2.toNat 0 = v.2
                · simp [q1, q2, q3, q4, q5, P.cond, P.get] at *
                  all_goals first | (simp [q4, q5]; done) | (split <;> rfl) | ((repeat' split) <;> first | rfl | (exfalso; omega) | (exfalso; simp_all; done) | (exfalso; simp_all; omega))
                · simp [q1, q2, q3, q4, q5, P.cond, P.get] at *
                  all_goals first | (simp [q4, q5]; done) | (split <;> rfl) | ((repeat' split) <;> first | rfl | (exfalso; omega) | (exfalso; simp_all; done) | (exfalso; simp_all; omega))
              · simp [q1, q2, q3, q4, P.cond, P.get] at *
                all_goals first | (simp [q4]; done) | (split <;> rfl) | ((repeat' split) <;> first | rfl | (exfalso; omega) | (exfalso; simp_all; done) | (exfalso; simp_all; omega))
            · simp [q1, q2, q3]
          · simp [q1, q2]
        · simp [q1]
      by_cases h5 : x.1 = 5
      · simp only [h5, if_true, decide_eq_true_eq]
        simp
        by_cases q1 : v.1 = 4
        · by_cases q2 : 0 ≤ x.2
          · by_cases q3 : x.2 < f.2.2.length
            · have e : P.inb x.2 (f.2.2.length : Int) = true := by unfold P.inb; simp; omega
              rw [e]
              by_cases q4 : v.2 ∈ f.2.2.getD x.2.toNat []
              · simp [q1, q2, q3, P.cond] at *
                all_goals first | (simp [q4]; done) | (split <;> rfl) | ((repeat' split) <;> first | rfl | (exfalso; omega) | (exfalso; simp_all; done) | (exfalso; simp_all; omega))
              · simp [q1, q2, q3, P.cond] at *
                all_goals first | (simp [q4]; done) | (split <;> rfl) | ((repeat' split) <;> first | rfl | (exfalso; omega) | (exfalso; simp_all; done) | (exfalso; simp_all; omega))
            · simp [q1, q2, q3]
          · simp [q1, q2]
        · simp [q1]
      simp only [h0, h1, h2, h3, h4, h5, if_false, decide_eq_true_eq]
      split <;> rfl
    · intro j hj
      try dsimp only
      rw [show P.get f.2.2 x.2 [] = f.2.2.getD x.2.toNat [] from rfl, ilt_len hj, cond_true, inb_len hj, cond_true, get_nat, wrap_succ (by have := older_few h x.2.toNat; omega), ieq_eq, cond_dec]
      by_cases q : v.2 = (f.2.2.getD x.2.toNat []).getD j 0
      · rw [if_pos q, if_pos q.symm]
      · rw [if_neg q, if_neg (fun z => q z.symm)]
    · try dsimp only
      rw [show P.get f.2.2 x.2 [] = f.2.2.getD x.2.toNat [] from rfl, ilt_end]
      rfl
  · try dsimp only
    rw [ilt_end]
    rfl
end Go.PL.Cf
end
section
open Go Go.PG Go.PL
set_option linter.all false
namespace Go.PL.Cf
open Go.PL.Sto (Val Prp Ob dP dO Right)
def FewO (s : List Ob) : Prop := s.length ≤ 100000 ∧ ∀ o, o ∈ s → o.1.length ≤ 100000
theorem few_at {s : List Ob} (h : FewO s) (i : Nat) : (s.getD i dO).1.length ≤ 100000 := by
  by_cases hi : i < s.length
  · exact h.2 _ (getD_mem hi dO)
  · rw [List.getD_eq_getElem?_getD, List.getElem?_eq_none (by omega)]; simp
def hasP (l : List Prp) (n : ByteArray) : Bool := l.any fun p => decide (p.1 = n)
def prB (f : Fr) (o : Sp) (p : Prp) : Bool := (getR o.1 p.1).2 && valB f p.2 (getR o.1 p.1).1.2.2
def fdB (l : List Prp) (d : Fd) : Bool := !d.2.1 || hasP l d.1
def obB (f : Fr) (s : List Ob) (n : Int) (o : Sp) : Bool := if 0 ≤ n ∧ n < s.length then
  valB f (s.getD n.toNat dO).2 o.2 && ((s.getD n.toNat dO).1.all (prB f o) && o.1.all (fdB (s.getD n.toNat dO).1)) else false
theorem all_if {α σ : Type} (l : List α) (p : α → Bool) (X Y : σ) : (if (l.all fun x => decide (p x = true)) = true then X else Y) = if l.all p = true then X else Y := by
  have : (l.all fun x => decide (p x = true)) = l.all p := by congr 1; funext x; simp
  rw [this]
theorem at_own (o : Ob) (n : ByteArray) (h : o.1.length ≤ 100000) : ref21_own K (o, n) = some (hasP o.1 n) := by
  unfold ref21_own
  try dsimp only
  rw [loop_any o.1 dP (fun p => p.1 = n) true (by omega) ?_ ?_]
  · unfold hasP
    cases o.1.any fun p => decide (p.1 = n) <;> rfl
  · intro i hi
    try dsimp only
    rw [ilt_len hi, cond_true, inb_len hi, cond_true, get_nat, seq_dec, cond_dec, wrap_succ (by omega)]
    by_cases q : (o.1.getD i dP).1 = n
    · rw [if_pos q, if_pos q]
    · rw [if_neg q, if_neg q]
  · try dsimp only
    rw [ilt_end]; rfl
theorem getR_few' {o : Sp} (h : FewS o) (n : ByteArray) : (getR o.1 n).1.2.2.length ≤ 1000000 := by have := getR_few h n; omega
theorem at_object (f : Fr) (s : List Ob) (n : Int) (o : Sp) (hf : FewF f) (hs : FewO s) (ho : FewS o) : conform_Object K (f, s, n, o) = some (obB f s n o) := by
  unfold conform_Object obB
  try dsimp only
  rw [ilt_dec, cond_dec, ile_dec, cond_dec, len_eq]
  by_cases h : 0 ≤ n ∧ n < s.length
  · rw [if_pos h, if_neg (by omega), if_neg (by omega), show P.inb n (s.length : Int) = true by unfold P.inb; simp; omega, cond_true, cond_true]
    simp only [show P.get s n ([], 0, 0) = s.getD n.toNat dO from rfl, cond_true]
    have hl := few_at hs n.toNat
    generalize s.getD n.toNat dO = ob at hl
    rw [at_value f ob.2 o.2 hf (by have := ho.2.2; omega), bind_some]
    cases valB f ob.2 o.2 with
    | false => rfl
    | true =>
    rw [not_true, cond_false, Bool.true_and]
    rw [loop_every ob.1 dP (fun p => prB f o p = true) false (by omega) ?_ ?_]
    · rw [all_if]
      cases ob.1.all (prB f o) with
      | false => rfl
      | true =>
      rw [if_pos rfl, Bool.true_and]
      rw [loop_every o.1 dF (fun d => fdB ob.1 d = true) false (by have := ho.1; omega) ?_ ?_]
      · rw [all_if]
        cases o.1.all (fdB ob.1) <;> rfl
      · intro i hi
        try dsimp only
        have hi' := ho.1
        rw [ilt_len hi, cond_true, inb_len hi, cond_true]
        simp only [get_nat]
        rw [wrap_succ (by omega)]
        generalize o.1.getD i dF = d
        unfold fdB
        cases d.2.1 with
        | false => rfl
        | true =>
        rw [cond_true, Bool.not_true, Bool.false_or, ile_nat]
        rw [loop_any ob.1 dP (fun p => p.1 = d.1) (.inl ((i + 1 : Nat) : Int)) (by omega) ?_ ?_]
        · unfold hasP
          cases ob.1.any fun p => decide (p.1 = d.1) <;> rfl
        · intro j hj
          try dsimp only
          rw [ilt_len hj, cond_true, inb_len hj, cond_true, get_nat, seq_dec, cond_dec, wrap_succ (by omega), ile_nat]
          by_cases q : (ob.1.getD j dP).1 = d.1
          · rw [if_pos q, if_pos q]; rfl
          · rw [if_neg q, if_neg q]
        · try dsimp only
          rw [ilt_end]; rfl
      · try dsimp only
        rw [ilt_end]; rfl
    · intro i hi
      try dsimp only
      rw [ilt_len hi, cond_true, inb_len hi, cond_true, get_nat, ob_get o _ ho, bind_some, at_value f _ _ hf (getR_few' ho _), bind_some, wrap_succ (by omega)]
      generalize ob.1.getD i dP = p
      unfold prB
      cases (getR o.1 p.1).2 <;> cases valB f p.2 (getR o.1 p.1).1.2.2 <;> rfl
    · try dsimp only
      rw [ilt_end]; rfl
  · rw [if_neg h]
    by_cases h1 : n < 0
    · rw [if_pos h1]
    · rw [if_neg h1, if_pos (by omega)]
theorem ref_object (f : Fr) (s : List Ob) (n : Int) (o : Sp) (hf : FewF f) (hs : FewO s) (ho : FewS o) : ref21_Object K (f, s, n, o) = some (obB f s n o) := by
  unfold ref21_Object obB
  try dsimp only
  rw [ilt_dec, cond_dec, ile_dec, cond_dec, len_eq]
  by_cases h : 0 ≤ n ∧ n < s.length
  · rw [if_pos h, if_neg (by omega), if_neg (by omega)]
    have e : P.inb n (s.length : Int) = true := by unfold P.inb; simp; omega
    simp only [e, show P.get s n ([], 0, 0) = s.getD n.toNat dO from rfl, cond_true]
    have hl := few_at hs n.toNat
    generalize s.getD n.toNat dO = ob at hl
    rw [loop_every ob.1 dP (fun p => prB f o p = true) false (by omega) ?_ ?_]
    · rw [all_if]
      cases ob.1.all (prB f o) with
      | false => simp
      | true =>
      rw [if_pos rfl, Bool.true_and]
      rw [loop_every o.1 dF (fun d => fdB ob.1 d = true) false (by have := ho.1; omega) ?_ ?_]
      · rw [all_if, ref_value f ob.2 o.2 hf (by have := ho.2.2; omega), bind_some]
        cases o.1.all (fdB ob.1) <;> cases valB f ob.2 o.2 <;> rfl
      · intro i hi
        try dsimp only
        have hi' := ho.1
        rw [ilt_len hi, cond_true, inb_len hi]
        simp only [get_nat, cond_true]
        rw [wrap_succ (by omega)]
        generalize o.1.getD i dF = d
        rw [at_own ob d.1 (by omega), bind_some]
        unfold fdB
        cases d.2.1 <;> cases hasP ob.1 d.1 <;> rfl
      · try dsimp only
        rw [ilt_end]; rfl
    · intro i hi
      try dsimp only
      have hg := ref_get o (ob.1.getD i dP).1 (by have := ho.1; omega)
      simp only [ilt_len hi, cond_true, inb_len hi, get_nat]
      rw [hg, bind_some, ref_value f _ _ hf (getR_few' ho _), bind_some, wrap_succ (by omega)]
      generalize ob.1.getD i dP = p
      unfold prB
      cases (getR o.1 p.1).2 <;> cases valB f p.2 (getR o.1 p.1).1.2.2 <;> rfl
    · try dsimp only
      rw [ilt_end]; rfl
  · rw [if_neg h]
    by_cases h1 : n < 0
    · rw [if_pos h1]
    · rw [if_neg h1, if_pos (by omega)]
def varF (f : Fr) (n : ByteArray) : Val := match f.1.find? fun p => decide (p.1 = n) with
  | some p => p.2
  | none => (0, 0)
theorem at_variable (f : Fr) (n : ByteArray) (h : FewF f) : conform_variable K (f, n) = some (varF f n) := by
  unfold conform_variable
  try dsimp only
  rw [loop_find f.1 dP (fun p => p.1 = n) (fun p => p.2) (by have := h.1; omega) ?_ ?_]
  · unfold varF
    cases f.1.find? fun p => decide (p.1 = n) with
    | none => rfl
    | some p => rfl
  · intro i hi
    have := h.1
    try dsimp only
    rw [ilt_len hi, cond_true, inb_len hi, cond_true, cond_true, get_nat, seq_dec, cond_dec, wrap_succ (by omega), show P.ilt (i : Int) 0 = false by rw [ilt_dec]; simp, cond_false]
    by_cases q : (f.1.getD i dP).1 = n
    · rw [if_pos q, if_pos q]; rfl
    · rw [if_neg q, if_neg q]
  · try dsimp only
    rw [ilt_end]; rfl
theorem ref_varF (f : Fr) (n : ByteArray) (h : FewF f) : ref21_Var K (f, n) = some (varF f n) := by
  unfold ref21_Var
  try dsimp only
  rw [loop_find f.1 dP (fun p => p.1 = n) (fun p => p.2) (by have := h.1; omega) ?_ ?_]
  · unfold varF
    cases f.1.find? fun p => decide (p.1 = n) with
    | none => rfl
    | some p => rfl
  · intro i hi
    have := h.1
    try dsimp only
    rw [ilt_len hi, cond_true, inb_len hi, cond_true, cond_true, get_nat, seq_dec, cond_dec, wrap_succ (by omega)]
    by_cases q : (f.1.getD i dP).1 = n
    · rw [if_pos q, if_pos q]
    · rw [if_neg q, if_neg q]
  · try dsimp only
    rw [ilt_end]; rfl
theorem amb_same {α : Type} (x : Option α) : P.amb x x = x := by simp [P.amb]
theorem cloneA (k : Nat) (x : List At) (h : x.length ≤ 1000000) : slCloneAtom k x = some x := by
  have hr : P.room (P.add (P.len (P.nil (Int × Int))) (P.len x)) 16 = true := by
    unfold P.room
    rw [decide_eq_true_eq, len_eq, len_eq]
    unfold P.add P.nil
    simp
    omega
  unfold slCloneAtom
  try dsimp only
  rw [hr, cond_true]
  have e : P.app [] x = x := rfl
  rw [e, ilt_dec, cond_dec, len_eq]
  by_cases h0 : 0 < (x.length : Int)
  · rw [if_pos h0]; rfl
  · rw [if_neg h0]
    have : x = [] := List.eq_nil_of_length_eq_zero (by omega)
    subst this
    exact amb_same _
theorem at_var (s : Sta) (n : ByteArray) (h : FewT s) : state_Var K (s, n) = some (var s.2.1 n) := by
  unfold state_Var
  try dsimp only
  rw [loop_find s.2.1 dB (fun b => b.1 = n) (fun b => b.2) (by have := h.1; omega) ?_ ?_]
  · unfold var getV
    cases s.2.1.find? fun b => decide (b.1 = n) with
    | none => rfl
    | some b => rfl
  · intro i hi
    have := h.1
    have hm := h.2.1 _ (getD_mem hi dB)
    try dsimp only
    rw [ilt_len hi, cond_true, inb_len hi, cond_true, cond_true, get_nat, seq_dec, cond_dec, wrap_succ (by omega), ile_nat, cond_true, cloneA K _ (Nat.le_trans hm (by omega)), bind_some]
    by_cases q : (s.2.1.getD i dB).1 = n
    · rw [if_pos q, if_pos q]; rfl
    · rw [if_neg q, if_neg q]
  · try dsimp only
    rw [ilt_end]; rfl
end Go.PL.Cf
end
section
open Go Go.PG Go.PL
set_option linter.all false
namespace Go.PL.Cf
open Go.PL.Sto (Val Prp Ob dP dO Right)
def vB (f : Fr) (a : Sta) (n : ByteArray) : Bool := valB f (varF f n) (var a.2.1 n)
def lcB (f : Fr) (s : List Ob) (a : Sta) (n : Int) (x : At) : Bool := (locR a.2.2 x).2 && obB f s n (locR a.2.2 x).1
def nwB (f : Fr) (s : List Ob) (a : Sta) (i : Nat) : Bool := decide (f.2.1.getD i 0 = -1) || lcB f s a (f.2.1.getD i 0) (4, (i : Int))
def odB (f : Fr) (s : List Ob) (a : Sta) (i : Nat) : Bool := (f.2.2.getD i []).all fun n => lcB f s a n (5, (i : Int))
def StP (f : Fr) (s : List Ob) (a : Sta) : Prop := a.1 = false ∧ (f.1.all fun p => vB f a p.1) = true ∧ (a.2.1.all fun b => vB f a b.1) = true ∧ (∀ i, i < f.2.1.length → nwB f s a i = true) ∧ ∀ i, i < f.2.2.length → odB f s a i = true
instance (f : Fr) (s : List Ob) (a : Sta) : Decidable (StP f s a) := by unfold StP; exact inferInstance
theorem locR_few {a : Sta} (h : FewT a) (x : At) : FewS (locR a.2.2 x).1 := by
  unfold locR getL
  cases q : a.2.2.find? fun b => decide (b.1 = x) with
  | none => exact ⟨by simp, by simp, by simp⟩
  | some b => exact h.2.2.2 b (List.mem_of_find?_eq_some q)
theorem at_loc (f : Fr) (s : List Ob) (n : Int) (a : Sta) (x : At) (hf : FewF f) (hs : FewO s) (ha : FewT a) : conform_loc K (f, s, n, a, x) = some (lcB f s a n x) := by
  unfold conform_loc lcB
  try dsimp only
  rw [st_loc a x ha, bind_some, at_object f s n _ hf hs (locR_few ha x), bind_some]
  cases (locR a.2.2 x).2 <;> rfl
theorem st_text {f : Fr} {s : List Ob} {a : Sta} (h1 : a.1 = false) : (if (f.1.all fun p => vB f a p.1) = true then if (a.2.1.all fun b => vB f a b.1) = true then if ∀ i, i < f.2.1.length → nwB f s a i = true then if ∀ i, i < f.2.2.length → odB f s a i = true then some true else some false else some false else some false else some false) = some (decide (StP f s a)) := by
  by_cases q1 : (f.1.all fun p => vB f a p.1) = true
  · by_cases q2 : (a.2.1.all fun b => vB f a b.1) = true
    · by_cases q3 : ∀ i, i < f.2.1.length → nwB f s a i = true
      · by_cases q4 : ∀ i, i < f.2.2.length → odB f s a i = true
        · rw [if_pos q1, if_pos q2, if_pos q3, if_pos q4, decide_eq_true (show StP f s a from ⟨h1, q1, q2, q3, q4⟩)]
        · rw [if_pos q1, if_pos q2, if_pos q3, if_neg q4, decide_eq_false (fun z : StP f s a => q4 z.2.2.2.2)]
      · rw [if_pos q1, if_pos q2, if_neg q3, decide_eq_false (fun z : StP f s a => q3 z.2.2.2.1)]
    · rw [if_pos q1, if_neg q2, decide_eq_false (fun z : StP f s a => q2 z.2.2.1)]
  · rw [if_neg q1, decide_eq_false (fun z : StP f s a => q1 z.2.1)]
theorem at_state (f : Fr) (s : List Ob) (a : Sta) (hf : FewF f) (hs : FewO s) (ha : FewT a) : conform_State K (f, s, a) = some (decide (StP f s a)) := by
  unfold conform_State
  try dsimp only
  have hv := fun n => var_few ha n
  cases h1 : a.1 with
  | true => rw [cond_true, decide_eq_false (fun z : StP f s a => by have := z.1; rw [h1] at this; cases this)]
  | false =>
  rw [cond_false, ← st_text h1]
  have step : ∀ n : ByteArray, ∀ {σ : Type} (F : Bool → Option σ), (P.bind (conform_variable K (f, n)) fun r => P.bind (state_Var K (a, n)) fun r_1 => P.bind (conform_Value K (f, r, r_1)) F) = F (vB f a n) := by
    intro n σ F
    rw [at_variable f n hf, bind_some, at_var a n ha, bind_some, at_value f _ _ hf (by have := hv n; omega), bind_some]
    rfl
  rw [loop_every f.1 dP (fun p => vB f a p.1 = true) false (by have := hf.1; omega) ?_ ?_]
  · rw [all_if]
    congr 1
    rw [loop_every a.2.1 dB (fun b => vB f a b.1 = true) false (by have := ha.1; omega) ?_ ?_]
    · rw [all_if]
      congr 1
      rw [loop_all f.2.1.length (fun i => nwB f s a i = true) (r := false) (by have := hf.2.1; omega) ?_ ?_]
      · congr 1
        rw [loop_all f.2.2.length (fun i => odB f s a i = true) (r := false) (by have := hf.2.2.1; omega) ?_ ?_]
        · intro i hi
          try dsimp only
          have hl := older_few hf i
          have := hf.2.2.1
          rw [ilt_len hi, cond_true, inb_len hi, cond_true, get_nat, wrap_succ (by omega)]
          rw [loop_every (f.2.2.getD i []) 0 (fun n => lcB f s a n (5, (i : Int)) = true) (.inr (.inr false)) (by omega) ?_ ?_]
          · rw [all_if]
            unfold odB
            cases (f.2.2.getD i []).all fun n => lcB f s a n (5, (i : Int)) <;> rfl
          · intro j hj
            try dsimp only
            rw [ilt_len hj, cond_true, inb_len hj, cond_true, get_nat, at_loc f s _ a _ hf hs ha, bind_some, wrap_succ (by omega)]
            cases lcB f s a ((f.2.2.getD i []).getD j 0) (5, (i : Int)) <;> rfl
          · try dsimp only
            rw [ilt_end]; rfl
        · try dsimp only
          rw [ilt_end]; rfl
      · intro i hi
        try dsimp only
        have := hf.2.1
        rw [ilt_len hi, cond_true, inb_len hi, cond_true, get_nat, at_loc f s _ a _ hf hs ha, bind_some, wrap_succ (by omega), ieq_eq, cond_ndec]
        unfold nwB
        by_cases q : f.2.1.getD i 0 = -1
        · rw [if_pos q, decide_eq_true q]; rfl
        · rw [if_neg q, decide_eq_false q]
          cases lcB f s a (f.2.1.getD i 0) (4, (i : Int)) <;> rfl
      · try dsimp only
        rw [ilt_end]; rfl
    · intro i hi
      try dsimp only
      have := ha.1
      rw [ilt_len hi, cond_true, inb_len hi, cond_true, get_nat, step, wrap_succ (by omega)]
      cases vB f a (a.2.1.getD i dB).1 <;> rfl
    · try dsimp only
      rw [ilt_end]; rfl
  · intro i hi
    try dsimp only
    have := hf.1
    rw [ilt_len hi, cond_true, inb_len hi, cond_true, get_nat, step, wrap_succ (by omega)]
    cases vB f a (f.1.getD i dP).1 <;> rfl
  · try dsimp only
    rw [ilt_end]; rfl
end Go.PL.Cf
end
section
open Go Go.PG Go.PL
set_option linter.all false
namespace Go.PL.Cf
open Go.PL.Sto (Val Prp Ob dP dO Right)
def clI (x : List Int) : Option (List Int) := P.cond (P.room (P.add (P.len (P.nil Int)) (P.len x)) 8) (some x) none
theorem cloneI_eq (k : Nat) : slices_Clone_int_int k = clI := by
  funext x
  unfold slices_Clone_int_int clI
  try dsimp only
  have e : P.app [] x = x := rfl
  rw [e, ilt_dec, cond_dec, len_eq]
  by_cases h0 : 0 < (x.length : Int)
  · rw [if_pos h0]; rfl
  · rw [if_neg h0]
    have : x = [] := List.eq_nil_of_length_eq_zero (by omega)
    subst this
    exact amb_same _
theorem cloneI (k : Nat) (x : List Int) (h : x.length ≤ 1000000) : slices_Clone_int_int k x = some x := by
  rw [cloneI_eq]
  unfold clI
  have hr : P.room (P.add (P.len (P.nil Int)) (P.len x)) 8 = true := by
    unfold P.room
    rw [decide_eq_true_eq, len_eq, len_eq]
    unfold P.add P.nil
    simp
    omega
  rw [hr, cond_true]
set_option maxRecDepth 100000 in
theorem fixed21 : law21_fixed K () = some true := by
  unfold law21_fixed conform_Fresh
  rw [cloneI_eq]
  kernel_rfl
end Go.PL.Cf
end
section
open Go Go.PG Go.PL
set_option linter.all false
namespace Go.PL.Cf
open Go.PL.Sto (Val Prp Ob dP dO Right)
theorem loop_allG {ρ σ : Type} (n : Nat) (p : Nat → Prop) [DecidablePred p] {f : Int → Option (Int ⊕ (Unit ⊕ ρ))} {A : Option σ} {B : ρ → Option σ} {r : ρ} (hn : n ≤ 9223372036854775807)
    (hs : ∀ i : Nat, i < n → f (i : Int) = some (if p i then .inl ((i + 1 : Nat) : Int) else .inr (.inr r))) (he : f (n : Int) = some (.inr (.inl ()))) :
    P.bind (P.iter K f 0) (P.either (fun (_ : Unit) => A) B) = if ∀ i, i < n → p i then A else B r := by
  rw [iter_all (n := n) (e := .inl ()) (r := .inr r) p K hs he (by unfold K; omega), bind_some]
  by_cases q : ∀ i, i < n → p i
  · rw [if_pos q, if_pos q]; rfl
  · rw [if_neg q, if_neg q]; rfl
theorem loop_everyG {α ρ σ : Type} (l : List α) (d : α) (q : α → Prop) [DecidablePred q] (r : ρ) {f : Int → Option (Int ⊕ (Unit ⊕ ρ))} {A : Option σ} {B : ρ → Option σ} (hn : l.length ≤ 9223372036854775807)
    (hs : ∀ i : Nat, i < l.length → f (i : Int) = some (if q (l.getD i d) then .inl ((i + 1 : Nat) : Int) else .inr (.inr r))) (he : f (l.length : Int) = some (.inr (.inl ()))) :
    P.bind (P.iter K f 0) (P.either (fun (_ : Unit) => A) B) = if (l.all fun x => decide (q x)) = true then A else B r := by
  rw [loop_allG l.length (fun i => q (l.getD i d)) hn hs he]
  by_cases h : (l.all fun x => decide (q x)) = true
  · rw [if_pos h, if_pos]
    intro i hi
    simpa using List.all_eq_true.1 h _ (getD_mem hi d)
  · rw [if_neg h, if_neg]
    intro q'
    apply h
    rw [List.all_eq_true]
    intro x hx
    simpa using (forall_getD d).1 q' x hx
def SmallF (f : Fr) : Prop := (f.2.2.all fun l => decide (l.length ≤ 30)) = true ∧ f.1.length ≤ 40 ∧ f.2.1.length ≤ 40 ∧ f.2.2.length ≤ 40
instance (f : Fr) : Decidable (SmallF f) := by unfold SmallF; exact inferInstance
theorem smallF_few {f : Fr} (h : SmallF f) : FewF f := ⟨by have := h.2.1; omega, by have := h.2.2.1; omega, by have := h.2.2.2; omega, fun l hl => by
  have := List.all_eq_true.1 h.1 l hl
  simp only [decide_eq_true_eq] at this
  omega⟩
theorem ref_smallF (f : Fr) (hf : f.2.2.length ≤ 9223372036854775807) : ref21_Small K f = some (decide (SmallF f)) := by
  unfold ref21_Small
  try dsimp only
  rw [loop_everyG f.2.2 [] (fun l => l.length ≤ 30) false (by omega) ?_ ?_]
  · simp only [ile_dec, cond_dec, len_eq]
    by_cases q1 : (f.2.2.all fun l => decide (l.length ≤ 30)) = true
    · rw [if_pos q1]
      by_cases q2 : f.1.length ≤ 40
      · rw [if_pos (by omega)]
        by_cases q3 : f.2.1.length ≤ 40
        · rw [if_pos (by omega)]
          congr 1
          rw [Bool.eq_iff_iff, decide_eq_true_eq, decide_eq_true_eq]
          constructor
          · intro q; exact ⟨q1, q2, q3, by omega⟩
          · intro q; have := q.2.2.2; omega
        · rw [if_neg (by omega)]
          congr 1
          symm
          rw [decide_eq_false_iff_not]
          exact fun q => q3 q.2.2.1
      · rw [if_neg (by omega)]
        congr 1
        symm
        rw [decide_eq_false_iff_not]
        exact fun q => q2 q.2.1
    · rw [if_neg q1]
      congr 1
      symm
      rw [decide_eq_false_iff_not]
      exact fun q => q1 q.1
  · intro i hi
    try dsimp only
    rw [ilt_len hi, cond_true, inb_len hi, cond_true, get_nat, wrap_succ (by omega), ilt_dec, cond_dec, len_eq]
    by_cases q : (f.2.2.getD i []).length ≤ 30
    · rw [if_neg (by omega), if_pos q]
    · rw [if_pos (by omega), if_neg q]
  · try dsimp only
    rw [ilt_end]; rfl
def SmallO (s : List Ob) : Prop := (∀ i, i < s.length → (s.getD i dO).1.length ≤ 60) ∧ s.length ≤ 100
instance (s : List Ob) : Decidable (SmallO s) := by unfold SmallO; exact inferInstance
theorem smallO_few {s : List Ob} (h : SmallO s) : FewO s := ⟨by have := h.2; omega, fun o ho => by have := (forall_getD dO (p := fun o : Ob => o.1.length ≤ 60)).1 h.1 o ho; omega⟩
theorem fits_few {s : List Ob} (h : FewO s) : Sto.Fits s := ⟨by have := h.1; omega, fun i hi => by have := few_at h i; omega⟩
theorem ref_smallO (s : List Ob) (hs : s.length ≤ 9223372036854775807) : ref19_Small K s = some (decide (SmallO s)) := by
  unfold ref19_Small
  try dsimp only
  rw [loop_allG s.length (fun i => (s.getD i dO).1.length ≤ 60) (r := false) (by omega) ?_ ?_]
  · rw [ile_dec, len_eq]
    by_cases q : ∀ i, i < s.length → (s.getD i dO).1.length ≤ 60
    · rw [if_pos q]
      congr 1
      rw [Bool.eq_iff_iff, decide_eq_true_eq, decide_eq_true_eq]
      exact ⟨fun z => ⟨q, by omega⟩, fun z => by have := z.2; omega⟩
    · rw [if_neg q]
      congr 1
      symm
      rw [decide_eq_false_iff_not]
      exact fun z => q z.1
  · intro i hi
    try dsimp only
    rw [ilt_len hi, cond_true, inb_len hi, cond_true, get_nat, wrap_succ (by omega), ilt_dec, cond_dec, len_eq]
    by_cases q : (s.getD i dO).1.length ≤ 60
    · have q' : (List.getD s i ([], 0, 0)).1.length ≤ 60 := q
      rw [if_neg (by omega), if_pos q]
    · have q' : ¬ (List.getD s i ([], 0, 0)).1.length ≤ 60 := q
      rw [if_pos (by omega), if_neg q]
  · try dsimp only
    rw [ilt_end]; rfl
abbrev Al := Fr × List Ob × Sta
theorem law_small (x : Al) (h1 : x.1.2.2.length ≤ 9223372036854775807) (h2 : x.2.1.length ≤ 9223372036854775807) : law21_small K x = some (decide (SmallF x.1 ∧ SmallO x.2.1 ∧ SmallT x.2.2)) := by
  obtain ⟨f, s, a⟩ := x
  unfold law21_small
  try dsimp only at h1 h2 ⊢
  rw [ref_smallF f h1, bind_some, cond_dec, ref_smallO s h2, bind_some, cond_dec, ref_small8, bind_some]
  by_cases q1 : SmallF f
  · rw [if_pos q1]
    by_cases q2 : SmallO s
    · rw [if_pos q2]
      congr 1
      rw [Bool.eq_iff_iff, decide_eq_true_eq, decide_eq_true_eq]
      exact ⟨fun q => ⟨q1, q2, q⟩, fun q => q.2.2⟩
    · rw [if_neg q2, decide_eq_false fun q => q2 q.2.1]
  · rw [if_neg q1, decide_eq_false fun q => q1 q.1]
theorem g21 {p : Prop} [Decidable p] {X : Option Bool} (h : p → X = some true) : P.cond (P.not (decide p)) (P.bind (law21_fixed K ()) fun r => some r) X = some true := by
  rw [cond_ndec, fixed21, bind_some]
  by_cases q : p
  · rw [if_pos q]; exact h q
  · rw [if_neg q]
theorem g0 {X : Option Bool} (h : X = some true) : (P.bind (law21_fixed K ()) fun r => P.cond (P.not r) (P.bind (law21_fixed K ()) fun r => some r) X) = some true := by
  rw [fixed21, bind_some]
  exact h
end Go.PL.Cf
end
section
open Go Go.PG Go.PL
set_option linter.all false
namespace Go.PL.Cf
open Go.PL.Sto (Val Prp Ob dP dO Right)
theorem loop_stp {τ ρ σ : Type} (n : Nat) (s : Nat → τ) (p : Nat → Prop) [DecidablePred p] (r : ρ) {f : Int × τ → Option ((Int × τ) ⊕ (τ ⊕ ρ))} {A : τ → Option σ} {B : ρ → Option σ} (hn : n ≤ 1000000000000)
    (hs : ∀ i : Nat, i < n → (∀ j, j < i → p j) → f ((i : Int), s i) = some (if p i then .inl (((i + 1 : Nat) : Int), s (i + 1)) else .inr (.inr r))) (he : (∀ j, j < n → p j) → f ((n : Int), s n) = some (.inr (.inl (s n)))) :
    P.bind (P.iter K f (0, s 0)) (P.either A B) = if ∀ i, i < n → p i then A (s n) else B r := by
  by_cases q : ∀ i, i < n → p i
  · rw [if_pos q]
    have := iter_run (f := f) (fun i => ((i : Int), s i)) (.inl (s n)) n 0 K (by unfold K; omega) (fun j hj => by
      simp only [Nat.zero_add]
      rw [hs j hj fun k hk => q k (by omega), if_pos (q j hj)]) (by simpa using he q)
    rw [show ((0 : Nat) : Int) = 0 from rfl] at this
    rw [this, bind_some, either_inl]
  · rw [if_neg q]
    have hex : ∃ i, i < n ∧ ¬ p i := by
      apply Classical.byContradiction
      intro z
      exact q fun i hi => Classical.byContradiction fun y => z ⟨i, hi, y⟩
    -- the first one
    have first : ∀ m, (∃ i, i < m ∧ ¬ p i) → ∃ j, j < m ∧ ¬ p j ∧ ∀ i, i < j → p i := by
      intro m
      induction m with
      | zero => rintro ⟨i, hi, _⟩; omega
      | succ m ih =>
        rintro ⟨i, hi, hp⟩
        by_cases z : ∃ i, i < m ∧ ¬ p i
        · obtain ⟨j, h1, h2, h3⟩ := ih z
          exact ⟨j, by omega, h2, h3⟩
        · have : i = m := by
            apply Classical.byContradiction
            intro y
            exact z ⟨i, by omega, hp⟩
          subst this
          exact ⟨i, hi, hp, fun j hj => Classical.byContradiction fun y => z ⟨j, hj, y⟩⟩
    obtain ⟨j, h1, h2, h3⟩ := first n hex
    have := iter_run (f := f) (fun i => ((i : Int), s i)) (.inr r) j 0 K (by unfold K; omega) (fun k hk => by
      simp only [Nat.zero_add]
      rw [hs k (by omega) fun i hi => h3 i (by omega), if_pos (h3 k hk)]) (by
      simp only [Nat.zero_add]
      rw [hs j h1 h3, if_neg h2])
    rw [show ((0 : Nat) : Int) = 0 from rfl] at this
    rw [this, bind_some]
    rfl
theorem flat_take (X : List (List Int)) {i : Nat} (h : i < X.length) : (X.take (i + 1)).flatten = (X.take i).flatten ++ X.getD i [] := by
  rw [take_getD' h [], List.flatten_append]
  simp
theorem flat_le (X : List (List Int)) {m : Nat} (h : ∀ l, l ∈ X → l.length ≤ m) : X.flatten.length ≤ X.length * m := by
  induction X with
  | nil => simp
  | cons l X ih =>
    have h1 := h l (by simp)
    have h2 := ih fun a ha => h a (List.mem_cons_of_mem _ ha)
    simp only [List.flatten_cons, List.length_append, List.length_cons, Nat.add_mul, Nat.one_mul]
    omega
theorem flat_take_le (X : List (List Int)) (i : Nat) {m : Nat} (h : ∀ l, l ∈ X → l.length ≤ m) : (X.take i).flatten.length ≤ X.length * m := by
  have h1 := flat_le (X.take i) (m := m) fun l hl => h l (List.mem_of_mem_take hl)
  have : (X.take i).length ≤ X.length := by simp; omega
  exact Nat.le_trans h1 (Nat.mul_le_mul_right m this)
theorem wrap_is {x : Int} (h0 : -9223372036854775808 ≤ x) (h1 : x < 9223372036854775808) : P.wrap IntKind.i64 x = x := by
  unfold P.wrap IntKind.wrap
  simp only [IntKind.bits, IntKind.signed]
  simp
  omega
theorem getD_le {X : List (List Int)} {m : Nat} (h : ∀ l, l ∈ X → l.length ≤ m) (i : Nat) : (X.getD i []).length ≤ m := by
  by_cases hi : i < X.length
  · exact h _ (getD_mem hi [])
  · rw [List.getD_eq_getElem?_getD, List.getElem?_eq_none (by omega)]; simp
theorem concat_fill {ρ σ : Type} (X : List (List Int)) (hX : X.length ≤ 200000) (hl : ∀ l, l ∈ X → l.length ≤ 100000) {f : List Int × Int → Option ((List Int × Int) ⊕ (List Int ⊕ ρ))} {A : List Int → Option σ} {B : ρ → Option σ}
    (hf : f = fun (y : List Int × Int) => P.cond (P.ilt y.snd (P.len X)) (P.cond (P.inb y.snd (P.len X)) (P.cond (P.room (P.add (P.len y.fst) (P.len (P.get X y.snd []))) 8) (some (Sum.inl (P.app y.fst (P.get X y.snd []), P.wrap IntKind.i64 (P.add y.snd ((1 : Int)))))) none) none) (some (Sum.inr (Sum.inl y.fst)))) :
    P.bind (P.iter K f ([], (0 : Int))) (P.either A B) = A X.flatten := by
  have hx := fun i => flat_take_le X i hl
  have := iter_run (f := f) (fun i => ((X.take i).flatten, (i : Int))) (.inl X.flatten) X.length 0 K (by unfold K; omega) (fun j hj => by
    simp only [Nat.zero_add]
    rw [hf]
    simp only
    have h1 := getD_le hl j
    have h2 := hx j
    have h3 : X.length * 100000 ≤ 20000000000 := by omega
    rw [ilt_len hj, cond_true, inb_len hj, cond_true, get_nat, wrap_succ (by omega), flat_take X hj, show P.room (P.add (P.len (X.take j).flatten) (P.len (X.getD j []))) 8 = true by
      unfold P.room P.add
      rw [decide_eq_true_eq, len_eq, len_eq]
      omega, cond_true]
    rfl) (by
    simp only [Nat.zero_add]
    rw [hf]
    simp only
    rw [ilt_end, List.take_length]
    rfl)
  rw [show ((0 : Nat) : Int) = 0 from rfl] at this
  simp only [List.take_zero, List.flatten_nil] at this
  rw [this, bind_some]
  rfl
theorem concat_goal {ρ : Type} (X : List (List Int)) (hX : X.length ≤ 200000) (hl : ∀ l, l ∈ X → l.length ≤ 100000) (F : List Int → Option ρ) : (P.bind (P.iter K (fun (y : Int × Int) => P.cond (P.ilt y.snd (P.len X)) (P.cond (P.inb y.snd (P.len X)) (P.cond (P.ilt (P.wrap IntKind.i64 (P.add y.fst (P.len (P.get X y.snd [])))) ((0 : Int))) none (some (Sum.inl (P.wrap IntKind.i64 (P.add y.fst (P.len (P.get X y.snd []))), P.wrap IntKind.i64 (P.add y.snd ((1 : Int))))))) none) (some (Sum.inr (Sum.inl y.fst)))) ((0 : Int), (0 : Int))) (P.either (fun (z : Int) => P.cond (P.ilt z ((0 : Int))) none (P.cond (P.ilt ((0 : Int)) (P.wrap IntKind.i64 (P.sub z (P.wrap IntKind.i64 (P.sub ((0 : Int)) ((0 : Int))))))) (P.cond (P.cut ((0 : Int)) ((0 : Int)) ((0 : Int))) (P.cond (P.ilt ((0 : Int)) (P.wrap IntKind.i64 (P.sub z (P.wrap IntKind.i64 (P.sub ((0 : Int)) ((0 : Int))))))) (P.cond (P.room (P.wrap IntKind.i64 (P.sub z (P.wrap IntKind.i64 (P.sub ((0 : Int)) ((0 : Int)))))) 8) (P.cond (P.cut ((0 : Int)) ((0 : Int)) (P.len (P.rep (P.wrap IntKind.i64 (P.sub z (P.wrap IntKind.i64 (P.sub ((0 : Int)) ((0 : Int)))))) ((0 : Int))))) (P.bind (P.iter K (fun (y : List Int × Int) => P.cond (P.ilt y.snd (P.len X)) (P.cond (P.inb y.snd (P.len X)) (P.cond (P.room (P.add (P.len y.fst) (P.len (P.get X y.snd []))) 8) (some (Sum.inl (P.app y.fst (P.get X y.snd []), P.wrap IntKind.i64 (P.add y.snd ((1 : Int)))))) none) none) (some (Sum.inr (Sum.inl y.fst)))) (P.sub_ (P.rep (P.wrap IntKind.i64 (P.sub z (P.wrap IntKind.i64 (P.sub ((0 : Int)) ((0 : Int)))))) ((0 : Int))) ((0 : Int)) ((0 : Int)), (0 : Int))) (P.either (fun (z : List Int) => F z) fun (r : ρ) => some r)) none) none) none) none) (P.bind (P.iter K (fun (y : List Int × Int) => P.cond (P.ilt y.snd (P.len X)) (P.cond (P.inb y.snd (P.len X)) (P.cond (P.room (P.add (P.len y.fst) (P.len (P.get X y.snd []))) 8) (some (Sum.inl (P.app y.fst (P.get X y.snd []), P.wrap IntKind.i64 (P.add y.snd ((1 : Int)))))) none) none) (some (Sum.inr (Sum.inl y.fst)))) ([], (0 : Int))) (P.either (fun (z : List Int) => F z) fun (r : ρ) => some r)))) fun (r : ρ) => some r)) = F X.flatten := by
  have hx := fun i => flat_take_le X i hl
  have h3 : X.length * 100000 ≤ 20000000000 := by omega
  have run := iter_run (f := fun (y : Int × Int) => P.cond (P.ilt y.snd (P.len X)) (P.cond (P.inb y.snd (P.len X)) (P.cond (P.ilt (P.wrap IntKind.i64 (P.add y.fst (P.len (P.get X y.snd [])))) ((0 : Int))) none (some (Sum.inl (P.wrap IntKind.i64 (P.add y.fst (P.len (P.get X y.snd []))), P.wrap IntKind.i64 (P.add y.snd ((1 : Int))))))) none) (some (Sum.inr (Sum.inl y.fst : Int ⊕ ρ))))
    (fun i => ((((X.take i).flatten.length : Nat) : Int), (i : Int))) (.inl ((X.flatten.length : Nat) : Int)) X.length 0 K (by unfold K; omega) (fun j hj => by
    simp only [Nat.zero_add]
    have h1 := getD_le hl j
    have h2 := hx j
    rw [ilt_len hj, cond_true, inb_len hj, cond_true, get_nat, wrap_succ (by omega), flat_take X hj]
    have e : P.wrap IntKind.i64 (P.add (((X.take j).flatten.length : Nat) : Int) (P.len (X.getD j []))) = (((X.take j).flatten ++ X.getD j []).length : Nat) := by
      rw [len_eq]
      unfold P.add
      rw [wrap_is (by omega) (by omega), List.length_append]
      omega
    rw [e, ilt_dec, cond_dec, if_neg (by omega)]) (by
    simp only [Nat.zero_add]
    rw [ilt_end, List.take_length]
    rfl)
  rw [show ((0 : Nat) : Int) = 0 from rfl] at run
  simp only [List.take_zero, List.flatten_nil, List.length_nil] at run
  rw [show ((0 : Nat) : Int) = 0 from rfl] at run
  rw [run, bind_some]
  show P.cond _ _ _ = _
  have hL := hx X.length
  rw [List.take_length] at hL
  have e0 : P.wrap IntKind.i64 (P.sub ((0 : Int)) ((0 : Int))) = 0 := by decide
  have e1 : P.wrap IntKind.i64 (P.sub ((X.flatten.length : Nat) : Int) 0) = ((X.flatten.length : Nat) : Int) := by
    unfold P.sub
    rw [wrap_is (by omega) (by omega)]
    omega
  have a1 : P.ilt ((X.flatten.length : Nat) : Int) 0 = false := by rw [ilt_dec]; exact decide_eq_false (by omega)
  rw [e0, e1]
  by_cases h0 : (0 : Int) < ((X.flatten.length : Nat) : Int)
  · have a2 : P.ilt 0 ((X.flatten.length : Nat) : Int) = true := by rw [ilt_dec]; exact decide_eq_true h0
    rw [a2, cond_true, show P.cut ((0 : Int)) ((0 : Int)) ((0 : Int)) = true by decide, cond_true, cond_true, show P.room ((X.flatten.length : Nat) : Int) 8 = true by
      unfold P.room
      rw [decide_eq_true_eq]
      omega, cond_true, show P.cut ((0 : Int)) ((0 : Int)) (P.len (P.rep ((X.flatten.length : Nat) : Int) ((0 : Int)))) = true by
      unfold P.cut
      rw [len_eq]
      simp, cond_true, show P.sub_ (P.rep ((X.flatten.length : Nat) : Int) ((0 : Int))) 0 0 = [] by simp [P.sub_]]
    exact concat_fill X hX hl rfl
  · have a2 : P.ilt 0 ((X.flatten.length : Nat) : Int) = false := by rw [ilt_dec]; exact decide_eq_false h0
    rw [a2, cond_false]
    exact concat_fill X hX hl rfl
end Go.PL.Cf
end

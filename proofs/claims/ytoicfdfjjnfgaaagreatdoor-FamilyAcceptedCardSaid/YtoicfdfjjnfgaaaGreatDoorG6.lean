/- Lemmas for the claim. -/
import Derived.Test.YtoicfdfjjnfgaaaGreatDoorG5
import Derived.KernelRfl
set_option linter.all false
section
open Go Go.PG Go.Proofs
set_option linter.all false
set_option maxRecDepth 1000000
set_option maxHeartbeats 4000000
noncomputable def ref08_Join : (k : Nat) → (Ty.D (.pair T_api_State T_api_State)) → Option (Ty.D T_api_State) := fun (k : Nat) (x : (T_api_State.pair T_api_State).D) => P.bind (ref08_May k x.1) fun (r : Bool) => P.cond (P.not r) (some (false, [], [])) (P.bind (ref08_May k x.2) fun (r : Bool) => P.cond (P.not r) (some (false, [], [])) (P.cond x.1.1 (some x.2) (P.cond x.2.1 (some x.1) (P.bind (P.iter k (fun (y : Int × t4) => P.cond (P.ilt y.1 (P.len x.1.2.1)) (P.cond (P.inb y.1 (P.len x.1.2.1)) (P.bind (ref08_Var k (x.1, (P.get x.1.2.1 y.1 (b0, [])).1)) fun (r : List (Int × Int)) => P.bind (ref08_Var k (x.2, (P.get x.1.2.1 y.1 (b0, [])).1)) fun (r_1 : List (Int × Int)) => P.bind (ref06_Union k (r, r_1)) fun (r : List (Int × Int)) => P.bind (ref08_Set k (y.2, (P.get x.1.2.1 y.1 (b0, [])).1, r)) fun (r : t4) => some (Sum.inl (P.wrap .i64 (P.add y.1 i1), r))) none) (some (Sum.inr (Sum.inl y.2)))) (i0, x.1)) (P.either (fun (z : t4) => P.bind (P.iter k (fun (y : Int × t4) => P.cond (P.ilt y.1 (P.len x.2.2.1)) (P.cond (P.inb y.1 (P.len x.2.2.1)) (P.bind (ref08_Var k (x.1, (P.get x.2.2.1 y.1 (b0, [])).1)) fun (r : List (Int × Int)) => P.bind (ref08_Var k (x.2, (P.get x.2.2.1 y.1 (b0, [])).1)) fun (r_1 : List (Int × Int)) => P.bind (ref06_Union k (r, r_1)) fun (r : List (Int × Int)) => P.bind (ref08_Set k (y.2, (P.get x.2.2.1 y.1 (b0, [])).1, r)) fun (r : t4) => some (Sum.inl (P.wrap .i64 (P.add y.1 i1), r))) none) (some (Sum.inr (Sum.inl y.2)))) (i0, z)) (P.either (fun (z : t4) => P.bind (P.iter k (fun (y : Int × t4) => P.cond (P.ilt y.1 (P.len x.2.2.2)) (P.cond (P.inb y.1 (P.len x.2.2.2)) (P.bind (ref08_Loc k (x.1, (P.get x.2.2.2 y.1 ((i0, i0), [], [])).1)) fun (r : (t6) × Bool) => P.cond r.2 (P.cond (P.inb y.1 (P.len x.2.2.2)) (P.bind (ref07_Join k (r.1, (P.get x.2.2.2 y.1 ((i0, i0), [], [])).2)) fun (r : t6) => P.cond (P.inb y.1 (P.len x.2.2.2)) (P.bind (ref08_Put k (y.2, (P.get x.2.2.2 y.1 ((i0, i0), [], [])).1, r)) fun (r : t4) => some (Sum.inl (P.wrap .i64 (P.add y.1 i1), r))) none) none) (P.cond (P.inb y.1 (P.len x.2.2.2)) (P.cond (P.inb y.1 (P.len x.2.2.2)) (P.bind (ref08_Put k (y.2, (P.get x.2.2.2 y.1 ((i0, i0), [], [])).1, (P.get x.2.2.2 y.1 ((i0, i0), [], [])).2)) fun (r : t4) => some (Sum.inl (P.wrap .i64 (P.add y.1 i1), r))) none) none)) none) (some (Sum.inr (Sum.inl y.2)))) (i0, z)) (P.either (fun (z : t4) => some z) fun (r : t4) => some r)) fun (r : t4) => some r)) fun (r : t4) => some r)))))
theorem ref08_Join_eq (k : Nat) (x : (Ty.D (.pair T_api_State T_api_State))) : evFn (EN k [(13, ⟨(.pair T_api_State .str), (.slice T_api_Atom), ref08_Var k⟩), (54, ⟨T_api_State, .bool, ref08_May k⟩), (120, ⟨(.pair T_api_State (.pair .str (.slice T_api_Atom))), T_api_State, ref08_Set k⟩), (129, ⟨(.pair (.slice T_api_Atom) (.slice T_api_Atom)), (.slice T_api_Atom), ref06_Union k⟩), (130, ⟨(.pair T_api_State T_api_Atom), (.pair T_api_Shape .bool), ref08_Loc k⟩), (131, ⟨(.pair T_api_Shape T_api_Shape), T_api_Shape, ref07_Join k⟩), (132, ⟨(.pair T_api_State (.pair T_api_Atom T_api_Shape)), T_api_State, ref08_Put k⟩)]) 6 Tryz.f106 [(9, ⟨[.var 6 (.d tI), .box 5 [] (.d T_api_State)], [], (some (0, [.box 5 [] (.d T_api_State)]))⟩), (14, ⟨[.var 8 (.d tI), .box 5 [] (.d T_api_State)], [], (some (2, [.box 5 [] (.d T_api_State)]))⟩), (19, ⟨[.var 10 (.d tI), .box 5 [] (.d T_api_State)], [], (some (4, [.box 5 [] (.d T_api_State)]))⟩)] (.pair T_api_State T_api_State) T_api_State x = ref08_Join k x := by kernel_rfl
theorem ref08_Join_spec (k : Nat) : SpecOk Tryz.prog GG 106 ⟨(.pair T_api_State T_api_State), T_api_State, ref08_Join k⟩ :=
  fn_spec (envOk (E := EN k _) tabOk (.cons (ref08_Var_spec k) Tryz.func13 f13_ok <| .cons (ref08_May_spec k) Tryz.func54 f54_ok <| .cons (ref08_Set_spec k) Tryz.func120 f120_ok <| .cons (ref06_Union_spec k) Tryz.func129 f129_ok <| .cons (ref08_Loc_spec k) Tryz.func130 f130_ok <| .cons (ref07_Join_spec k) Tryz.func131 f131_ok <| .cons (ref08_Put_spec k) Tryz.func132 f132_ok <| .nil) codesOk mixedOk ggKeep) Tryz.func106 (fun x => (ref08_Join_eq k x).symm)
noncomputable def ref16_Join : (k : Nat) → (Ty.D (.pair T_api_Flow T_api_Flow)) → Option (Ty.D T_api_Flow) := fun (k : Nat) (x : (T_api_Flow.pair T_api_Flow).D) => P.bind (ref16_behind k (x.1, x.2)) fun (r : t3) => P.bind (ref08_Join k (x.1.2.2.2, x.2.2.2.2)) fun (r_1 : t4) => some (r.1, r.2.1, r.2.2.1, r_1)
theorem ref16_Join_eq (k : Nat) (x : (Ty.D (.pair T_api_Flow T_api_Flow))) : evFn (EN k [(83, ⟨(.pair T_api_Flow T_api_Flow), T_api_Flow, ref16_behind k⟩), (106, ⟨(.pair T_api_State T_api_State), T_api_State, ref08_Join k⟩)]) 6 Tryz.f105 [] (.pair T_api_Flow T_api_Flow) T_api_Flow x = ref16_Join k x := by kernel_rfl
theorem ref16_Join_spec (k : Nat) : SpecOk Tryz.prog GG 105 ⟨(.pair T_api_Flow T_api_Flow), T_api_Flow, ref16_Join k⟩ :=
  fn_spec (envOk (E := EN k _) tabOk (.cons (ref16_behind_spec k) Tryz.func83 f83_ok <| .cons (ref08_Join_spec k) Tryz.func106 f106_ok <| .nil) codesOk mixedOk ggKeep) Tryz.func105 (fun x => (ref16_Join_eq k x).symm)
noncomputable def ref07_Same : (k : Nat) → (Ty.D (.pair T_api_Shape T_api_Shape)) → Option (Ty.D .bool) := fun (k : Nat) (x : (T_api_Shape.pair T_api_Shape).D) => P.cond (P.not (P.ieq (P.len x.1.1) (P.len x.2.1))) (some false) (P.bind (ref06_Same k (x.1.2, x.2.2)) fun (r : Bool) => P.cond (P.not r) (some false) (P.bind (P.iter k (fun (y : Int) => P.cond (P.ilt y (P.len x.1.1)) (P.cond (P.inb y (P.len x.1.1)) (P.cond (P.inb y (P.len x.2.1)) (P.cond (P.not (P.seq (P.get x.1.1 y (b0, false, [])).1 (P.get x.2.1 y (b0, false, [])).1)) (some (Sum.inr (Sum.inr false))) (P.cond (P.not (P.beq (P.get x.1.1 y (b0, false, [])).2.1 (P.get x.2.1 y (b0, false, [])).2.1)) (some (Sum.inr (Sum.inr false))) (P.bind (ref06_Same k ((P.get x.1.1 y (b0, false, [])).2.2, (P.get x.2.1 y (b0, false, [])).2.2)) fun (r : Bool) => P.cond (P.not r) (some (Sum.inr (Sum.inr false))) (some (Sum.inl (P.wrap .i64 (P.add y i1))))))) none) none) (some (Sum.inr (Sum.inl ())))) i0) (P.either (fun (z : PUnit) => some true) fun (r : Bool) => some r)))
theorem ref07_Same_eq (k : Nat) (x : (Ty.D (.pair T_api_Shape T_api_Shape))) : evFn (EN k [(98, ⟨(.pair (.slice T_api_Atom) (.slice T_api_Atom)), .bool, ref06_Same k⟩)]) 6 Tryz.f133 [(4, ⟨[.var 5 (.d tI)], [], (some (0, []))⟩)] (.pair T_api_Shape T_api_Shape) .bool x = ref07_Same k x := by kernel_rfl
theorem ref07_Same_spec (k : Nat) : SpecOk Tryz.prog GG 133 ⟨(.pair T_api_Shape T_api_Shape), .bool, ref07_Same k⟩ :=
  fn_spec (envOk (E := EN k _) tabOk (.cons (ref06_Same_spec k) Tryz.func98 f98_ok <| .nil) codesOk mixedOk ggKeep) Tryz.func133 (fun x => (ref07_Same_eq k x).symm)
noncomputable def ref08_Same : (k : Nat) → (Ty.D (.pair T_api_State T_api_State)) → Option (Ty.D .bool) := fun (k : Nat) (x : (T_api_State.pair T_api_State).D) => P.cond (P.not (P.beq x.1.1 x.2.1)) (some false) (P.cond (P.not (P.ieq (P.len x.1.2.1) (P.len x.2.2.1))) (some false) (P.cond (P.not (P.ieq (P.len x.1.2.2) (P.len x.2.2.2))) (some false) (P.bind (P.iter k (fun (y : Int) => P.cond (P.ilt y (P.len x.1.2.1)) (P.cond (P.inb y (P.len x.1.2.1)) (P.cond (P.inb y (P.len x.2.2.1)) (P.cond (P.not (P.seq (P.get x.1.2.1 y (b0, [])).1 (P.get x.2.2.1 y (b0, [])).1)) (some (Sum.inr (Sum.inr false))) (P.cond (P.inb y (P.len x.1.2.1)) (P.cond (P.inb y (P.len x.2.2.1)) (P.bind (ref06_Same k ((P.get x.1.2.1 y (b0, [])).2, (P.get x.2.2.1 y (b0, [])).2)) fun (r : Bool) => P.cond (P.not r) (some (Sum.inr (Sum.inr false))) (some (Sum.inl (P.wrap .i64 (P.add y i1))))) none) none)) none) none) (some (Sum.inr (Sum.inl ())))) i0) (P.either (fun (z : PUnit) => P.bind (P.iter k (fun (y : Int) => P.cond (P.ilt y (P.len x.1.2.2)) (P.cond (P.inb y (P.len x.1.2.2)) (P.cond (P.inb y (P.len x.2.2.2)) (P.cond (P.not (P.and (P.ieq (P.get x.1.2.2 y ((i0, i0), [], [])).1.1 (P.get x.2.2.2 y ((i0, i0), [], [])).1.1) (P.ieq (P.get x.1.2.2 y ((i0, i0), [], [])).1.2 (P.get x.2.2.2 y ((i0, i0), [], [])).1.2))) (some (Sum.inr (Sum.inr false))) (P.cond (P.inb y (P.len x.1.2.2)) (P.cond (P.inb y (P.len x.2.2.2)) (P.bind (ref07_Same k ((P.get x.1.2.2 y ((i0, i0), [], [])).2, (P.get x.2.2.2 y ((i0, i0), [], [])).2)) fun (r : Bool) => P.cond (P.not r) (some (Sum.inr (Sum.inr false))) (some (Sum.inl (P.wrap .i64 (P.add y i1))))) none) none)) none) none) (some (Sum.inr (Sum.inl ())))) i0) (P.either (fun (z : PUnit) => some true) fun (r : Bool) => some r)) fun (r : Bool) => some r))))
theorem ref08_Same_eq (k : Nat) (x : (Ty.D (.pair T_api_State T_api_State))) : evFn (EN k [(98, ⟨(.pair (.slice T_api_Atom) (.slice T_api_Atom)), .bool, ref06_Same k⟩), (133, ⟨(.pair T_api_Shape T_api_Shape), .bool, ref07_Same k⟩)]) 6 Tryz.f107 [(4, ⟨[.var 5 (.d tI)], [], (some (0, []))⟩), (9, ⟨[.var 6 (.d tI)], [], (some (2, []))⟩)] (.pair T_api_State T_api_State) .bool x = ref08_Same k x := by kernel_rfl
theorem ref08_Same_spec (k : Nat) : SpecOk Tryz.prog GG 107 ⟨(.pair T_api_State T_api_State), .bool, ref08_Same k⟩ :=
  fn_spec (envOk (E := EN k _) tabOk (.cons (ref06_Same_spec k) Tryz.func98 f98_ok <| .cons (ref07_Same_spec k) Tryz.func133 f133_ok <| .nil) codesOk mixedOk ggKeep) Tryz.func107 (fun x => (ref08_Same_eq k x).symm)
noncomputable def ref16_block_ (ref16_stmt : Nat → (Ty.D (.pair (.slice T_api_Sig) (.pair T_api_State (.pair (.st slfB) (.pair tI tI))))) → Option (Ty.D T_api_Flow)) (ref16_block : Nat → (Ty.D (.pair (.slice T_api_Sig) (.pair T_api_State (.pair (.slice .slf) (.pair tI tI))))) → Option (Ty.D T_api_Flow)) : (k : Nat) → (Ty.D (.pair (.slice T_api_Sig) (.pair T_api_State (.pair (.slice .slf) (.pair tI tI))))) → Option (Ty.D T_api_Flow) := fun (k : Nat) (x : (T_api_Sig.slice.pair (T_api_State.pair (Ty.slf.slice.pair ((Ty.int IntKind.i64).pair (Ty.int IntKind.i64))))).D) => P.bind (P.iter k (fun (y : Int × Int × Int × t3) => P.cond (P.ilt y.2.2.1 (P.len x.2.2.1)) (P.cond (P.inb y.2.2.1 (P.len x.2.2.1)) (P.bind (ref16_stmt k (x.1, y.2.2.2.2.2.2, P.tun (P.get x.2.2.1 y.2.2.1 (P.tof (i0, b0, b0, b0, [], [], [], []))), y.1, y.2.1)) fun (r : t3) => P.bind (ref16_behind k (y.2.2.2, r)) fun (r : t3) => P.cond (P.cut y.2.2.1 (P.wrap .i64 (P.add y.2.2.1 i1)) (P.len x.2.2.1)) (P.bind (ref04_List k (P.sub_ x.2.2.1 y.2.2.1 (P.wrap .i64 (P.add y.2.2.1 i1)))) fun (r_1 : List Tree) => P.cond (P.cut y.2.2.1 (P.wrap .i64 (P.add y.2.2.1 i1)) (P.len x.2.2.1)) (P.bind (ref04_Sites k (P.sub_ x.2.2.1 y.2.2.1 (P.wrap .i64 (P.add y.2.2.1 i1)))) fun (r_2 : Int) => some (Sum.inl (P.wrap .i64 (P.add y.1 (P.len r_1)), P.wrap .i64 (P.add y.2.1 r_2), P.wrap .i64 (P.add y.2.2.1 i1), r))) none) none) none) (some (Sum.inr (Sum.inl y.2.2.2)))) (x.2.2.2.1, x.2.2.2.2, i0, [], [], [], x.2.1)) (P.either (fun (z : t3) => some z) fun (r : t3) => some r)
theorem ref16_block_eq (ref16_stmt : Nat → (Ty.D (.pair (.slice T_api_Sig) (.pair T_api_State (.pair (.st slfB) (.pair tI tI))))) → Option (Ty.D T_api_Flow)) (ref16_block : Nat → (Ty.D (.pair (.slice T_api_Sig) (.pair T_api_State (.pair (.slice .slf) (.pair tI tI))))) → Option (Ty.D T_api_Flow)) (k : Nat) (x : (Ty.D (.pair (.slice T_api_Sig) (.pair T_api_State (.pair (.slice .slf) (.pair tI tI)))))) : evFn (EN k [(47, ⟨(.slice .slf), (.slice .slf), ref04_List k⟩), (83, ⟨(.pair T_api_Flow T_api_Flow), T_api_Flow, ref16_behind k⟩), (84, ⟨(.pair (.slice T_api_Sig) (.pair T_api_State (.pair (.st slfB) (.pair tI tI)))), T_api_Flow, ref16_stmt k⟩), (85, ⟨(.slice .slf), tI, ref04_Sites k⟩)]) 6 Tryz.f56 [(3, ⟨[.var 3 (.d tI), .var 4 (.d tI), .var 12 (.d tI), .box 11 [] (.d T_api_Flow)], [], (some (0, [.box 11 [] (.d T_api_Flow)]))⟩)] (.pair (.slice T_api_Sig) (.pair T_api_State (.pair (.slice .slf) (.pair tI tI)))) T_api_Flow x = ref16_block_ ref16_stmt ref16_block k x := by kernel_rfl
theorem ref16_block_specR (ref16_stmt : Nat → (Ty.D (.pair (.slice T_api_Sig) (.pair T_api_State (.pair (.st slfB) (.pair tI tI))))) → Option (Ty.D T_api_Flow)) (ref16_block : Nat → (Ty.D (.pair (.slice T_api_Sig) (.pair T_api_State (.pair (.slice .slf) (.pair tI tI))))) → Option (Ty.D T_api_Flow)) (k : Nat) (h84 : SpecOk Tryz.prog GG 84 ⟨(.pair (.slice T_api_Sig) (.pair T_api_State (.pair (.st slfB) (.pair tI tI)))), T_api_Flow, ref16_stmt k⟩) (h56 : SpecOk Tryz.prog GG 56 ⟨(.pair (.slice T_api_Sig) (.pair T_api_State (.pair (.slice .slf) (.pair tI tI)))), T_api_Flow, ref16_block k⟩) : SpecOk Tryz.prog GG 56 ⟨(.pair (.slice T_api_Sig) (.pair T_api_State (.pair (.slice .slf) (.pair tI tI)))), T_api_Flow, ref16_block_ ref16_stmt ref16_block k⟩ :=
  fn_spec (envOk (E := EN k _) tabOk (.cons (ref04_List_spec k) Tryz.func47 f47_ok <| .cons (ref16_behind_spec k) Tryz.func83 f83_ok <| .cons h84 Tryz.func84 f84_ok <| .cons (ref04_Sites_spec k) Tryz.func85 f85_ok <| .nil) codesOk mixedOk ggKeep) Tryz.func56 (fun x => (ref16_block_eq ref16_stmt ref16_block k x).symm)
noncomputable def ref16_stmt_ (ref16_stmt : Nat → (Ty.D (.pair (.slice T_api_Sig) (.pair T_api_State (.pair (.st slfB) (.pair tI tI))))) → Option (Ty.D T_api_Flow)) (ref16_block : Nat → (Ty.D (.pair (.slice T_api_Sig) (.pair T_api_State (.pair (.slice .slf) (.pair tI tI))))) → Option (Ty.D T_api_Flow)) : (k : Nat) → (Ty.D (.pair (.slice T_api_Sig) (.pair T_api_State (.pair (.st slfB) (.pair tI tI))))) → Option (Ty.D T_api_Flow) := fun (k : Nat) (x : (T_api_Sig.slice.pair (T_api_State.pair (slfB.st.pair ((Ty.int IntKind.i64).pair (Ty.int IntKind.i64))))).D) => let c0 := (P.either (fun (z : t4) => P.bind (ref16_dead k ()) fun (r : t4) => P.bind (ref16_one k (z, r, [], (160 : Int), x.2.2.2.1)) fun (r : t3) => P.bind (ref16_never k x.2.2.1) fun (r_1 : t3) => P.bind (ref16_behind k (r, r_1)) fun (r : t3) => some r) fun (r : t3) => some r); let c1 := (ref16_never k (i0, b0, b0, b0, [], [], [], x.2.2.1.2.2.2.2.2.2.2)); let c2 := (ref16_block k (x.1, x.2.1, x.2.2.1.2.2.2.2.2.2.1, P.wrap .i64 (P.add x.2.2.2.1 i1), x.2.2.2.2)); P.cond (P.not (P.ieq x.2.2.1.1 ((9 : Int)))) (P.cond (P.not (P.ieq x.2.2.1.1 ((10 : Int)))) (P.bind (ref15_Do k (x.1, x.2.1, x.2.2.1, x.2.2.2.2)) fun (r : (t4) × List (t11) × Int) => P.bind (ref16_one k (x.2.1, r.1, r.2.1, r.2.2, x.2.2.2.1)) fun (r_1 : t3) => P.bind (ref16_never k x.2.2.1) fun (r_2 : t3) => P.bind (ref16_behind k (r_1, r_2)) fun (r_3 : t3) => some (r_3.1, r_3.2.1, r_3.2.2.1, r.1)) (P.bind (ref16_cond k (x.1, x.2.1, x.2.2.1)) fun (r : List (t11) × Int) => P.cond (P.not (P.ieq r.2 i0)) (P.bind (ref16_dead k ()) fun (r_1 : t4) => P.bind (ref16_one k (x.2.1, r_1, [], r.2, x.2.2.2.1)) fun (r : t3) => P.bind (ref16_never k x.2.2.1) fun (r_2 : t3) => P.bind (ref16_behind k (r, r_2)) fun (r : t3) => some r) (P.cond (P.ieq x.2.2.1.1 ((9 : Int))) (P.bind c2 fun (r_1 : t3) => P.bind (ref04_List k x.2.2.1.2.2.2.2.2.2.1) fun (r_2 : List Tree) => P.bind (ref04_Sites k x.2.2.1.2.2.2.2.2.2.1) fun (r_3 : Int) => P.bind (ref16_block k (x.1, x.2.1, x.2.2.1.2.2.2.2.2.2.2, P.wrap .i64 (P.add (P.wrap .i64 (P.add x.2.2.2.1 i1)) (P.len r_2)), P.wrap .i64 (P.add x.2.2.2.2 r_3))) fun (r_4 : t3) => P.bind (ref16_one k (x.2.1, x.2.1, r.1, r.2, x.2.2.2.1)) fun (r : t3) => P.bind (ref16_Join k (r_1, r_4)) fun (r_5 : t3) => P.bind (ref16_behind k (r, r_5)) fun (r : t3) => some r) (P.bind (P.iter k (fun (y : List (t11) × Int × t4) => P.cond (P.ilt y.2.1 ((200 : Int))) (P.bind (ref16_block k (x.1, y.2.2, x.2.2.1.2.2.2.2.2.2.1, P.wrap .i64 (P.add x.2.2.2.1 i1), x.2.2.2.2)) fun (r : t3) => P.bind (ref08_Join k (y.2.2, r.2.2.2)) fun (r_1 : t4) => P.bind (ref08_Same k (r_1, y.2.2)) fun (r_2 : Bool) => P.cond r_2 (P.bind (ref16_one k (y.2.2, y.2.2, y.1, i0, x.2.2.2.1)) fun (r_3 : t3) => P.bind (ref16_behind k (r_3, r)) fun (r : t3) => P.bind c1 fun (r_4 : t3) => P.bind (ref16_behind k (r, r_4)) fun (r : t3) => some (Sum.inr (Sum.inr (r.1, r.2.1, r.2.2.1, y.2.2)))) (P.bind (ref16_cond k (x.1, r_1, x.2.2.1)) fun (r : List (t11) × Int) => P.cond (P.not (P.ieq r.2 i0)) (P.bind (ref16_dead k ()) fun (r_3 : t4) => P.bind (ref16_one k (r_1, r_3, [], r.2, x.2.2.2.1)) fun (r : t3) => P.bind (ref16_never k x.2.2.1) fun (r_4 : t3) => P.bind (ref16_behind k (r, r_4)) fun (r : t3) => some (Sum.inr (Sum.inr r))) (some (Sum.inl (r.1, P.wrap .i64 (P.add y.2.1 i1), r_1))))) (some (Sum.inr (Sum.inl y.2.2)))) (r.1, i0, x.2.1)) c0)))) (P.bind (ref16_cond k (x.1, x.2.1, x.2.2.1)) fun (r : List (t11) × Int) => P.cond (P.not (P.ieq r.2 i0)) (P.bind (ref16_dead k ()) fun (r_1 : t4) => P.bind (ref16_one k (x.2.1, r_1, [], r.2, x.2.2.2.1)) fun (r : t3) => P.bind (ref16_never k x.2.2.1) fun (r_2 : t3) => P.bind (ref16_behind k (r, r_2)) fun (r : t3) => some r) (P.cond (P.ieq x.2.2.1.1 ((9 : Int))) (P.bind c2 fun (r_1 : t3) => P.bind (ref04_List k x.2.2.1.2.2.2.2.2.2.1) fun (r_2 : List Tree) => P.bind (ref04_Sites k x.2.2.1.2.2.2.2.2.2.1) fun (r_3 : Int) => P.bind (ref16_block k (x.1, x.2.1, x.2.2.1.2.2.2.2.2.2.2, P.wrap .i64 (P.add (P.wrap .i64 (P.add x.2.2.2.1 i1)) (P.len r_2)), P.wrap .i64 (P.add x.2.2.2.2 r_3))) fun (r_4 : t3) => P.bind (ref16_one k (x.2.1, x.2.1, r.1, r.2, x.2.2.2.1)) fun (r : t3) => P.bind (ref16_Join k (r_1, r_4)) fun (r_5 : t3) => P.bind (ref16_behind k (r, r_5)) fun (r : t3) => some r) (P.bind (P.iter k (fun (y : List (t11) × Int × t4) => P.cond (P.ilt y.2.1 ((200 : Int))) (P.bind (ref16_block k (x.1, y.2.2, x.2.2.1.2.2.2.2.2.2.1, P.wrap .i64 (P.add x.2.2.2.1 i1), x.2.2.2.2)) fun (r : t3) => P.bind (ref08_Join k (y.2.2, r.2.2.2)) fun (r_1 : t4) => P.bind (ref08_Same k (r_1, y.2.2)) fun (r_2 : Bool) => P.cond r_2 (P.bind (ref16_one k (y.2.2, y.2.2, y.1, i0, x.2.2.2.1)) fun (r_3 : t3) => P.bind (ref16_behind k (r_3, r)) fun (r : t3) => P.bind c1 fun (r_4 : t3) => P.bind (ref16_behind k (r, r_4)) fun (r : t3) => some (Sum.inr (Sum.inr (r.1, r.2.1, r.2.2.1, y.2.2)))) (P.bind (ref16_cond k (x.1, r_1, x.2.2.1)) fun (r : List (t11) × Int) => P.cond (P.not (P.ieq r.2 i0)) (P.bind (ref16_dead k ()) fun (r_3 : t4) => P.bind (ref16_one k (r_1, r_3, [], r.2, x.2.2.2.1)) fun (r : t3) => P.bind (ref16_never k x.2.2.1) fun (r_4 : t3) => P.bind (ref16_behind k (r, r_4)) fun (r : t3) => some (Sum.inr (Sum.inr r))) (some (Sum.inl (r.1, P.wrap .i64 (P.add y.2.1 i1), r_1))))) (some (Sum.inr (Sum.inl y.2.2)))) (r.1, i0, x.2.1)) c0)))
theorem ref16_stmt_eq (ref16_stmt : Nat → (Ty.D (.pair (.slice T_api_Sig) (.pair T_api_State (.pair (.st slfB) (.pair tI tI))))) → Option (Ty.D T_api_Flow)) (ref16_block : Nat → (Ty.D (.pair (.slice T_api_Sig) (.pair T_api_State (.pair (.slice .slf) (.pair tI tI))))) → Option (Ty.D T_api_Flow)) (k : Nat) (x : (Ty.D (.pair (.slice T_api_Sig) (.pair T_api_State (.pair (.st slfB) (.pair tI tI)))))) : evFn (EN k [(47, ⟨(.slice .slf), (.slice .slf), ref04_List k⟩), (56, ⟨(.pair (.slice T_api_Sig) (.pair T_api_State (.pair (.slice .slf) (.pair tI tI)))), T_api_Flow, ref16_block k⟩), (83, ⟨(.pair T_api_Flow T_api_Flow), T_api_Flow, ref16_behind k⟩), (85, ⟨(.slice .slf), tI, ref04_Sites k⟩), (100, ⟨(.pair (.slice T_api_Sig) (.pair T_api_State (.pair (.st slfB) tI))), (.pair T_api_State (.pair (.slice T_api_Cast) tI)), ref15_Do k⟩), (101, ⟨(.pair T_api_State (.pair T_api_State (.pair (.slice T_api_Cast) (.pair tI tI)))), T_api_Flow, ref16_one k⟩), (102, ⟨(.st slfB), T_api_Flow, ref16_never k⟩), (103, ⟨(.pair (.slice T_api_Sig) (.pair T_api_State (.st slfB))), (.pair (.slice T_api_Cast) tI), ref16_cond k⟩), (104, ⟨.unit, T_api_State, ref16_dead k⟩), (105, ⟨(.pair T_api_Flow T_api_Flow), T_api_Flow, ref16_Join k⟩), (106, ⟨(.pair T_api_State T_api_State), T_api_State, ref08_Join k⟩), (107, ⟨(.pair T_api_State T_api_State), .bool, ref08_Same k⟩)]) 6 Tryz.f84 [(14, ⟨[.var 15 (.d (.slice T_api_Cast)), .var 19 (.d tI), .box 6 [] (.d T_api_State)], [10], (some (0, [.box 6 [] (.d T_api_State)]))⟩)] (.pair (.slice T_api_Sig) (.pair T_api_State (.pair (.st slfB) (.pair tI tI)))) T_api_Flow x = ref16_stmt_ ref16_stmt ref16_block k x := by kernel_rfl
theorem ref16_stmt_specR (ref16_stmt : Nat → (Ty.D (.pair (.slice T_api_Sig) (.pair T_api_State (.pair (.st slfB) (.pair tI tI))))) → Option (Ty.D T_api_Flow)) (ref16_block : Nat → (Ty.D (.pair (.slice T_api_Sig) (.pair T_api_State (.pair (.slice .slf) (.pair tI tI))))) → Option (Ty.D T_api_Flow)) (k : Nat) (h84 : SpecOk Tryz.prog GG 84 ⟨(.pair (.slice T_api_Sig) (.pair T_api_State (.pair (.st slfB) (.pair tI tI)))), T_api_Flow, ref16_stmt k⟩) (h56 : SpecOk Tryz.prog GG 56 ⟨(.pair (.slice T_api_Sig) (.pair T_api_State (.pair (.slice .slf) (.pair tI tI)))), T_api_Flow, ref16_block k⟩) : SpecOk Tryz.prog GG 84 ⟨(.pair (.slice T_api_Sig) (.pair T_api_State (.pair (.st slfB) (.pair tI tI)))), T_api_Flow, ref16_stmt_ ref16_stmt ref16_block k⟩ :=
  fn_spec (envOk (E := EN k _) tabOk (.cons (ref04_List_spec k) Tryz.func47 f47_ok <| .cons h56 Tryz.func56 f56_ok <| .cons (ref16_behind_spec k) Tryz.func83 f83_ok <| .cons (ref04_Sites_spec k) Tryz.func85 f85_ok <| .cons (ref15_Do_spec k) Tryz.func100 f100_ok <| .cons (ref16_one_spec k) Tryz.func101 f101_ok <| .cons (ref16_never_spec k) Tryz.func102 f102_ok <| .cons (ref16_cond_spec k) Tryz.func103 f103_ok <| .cons (ref16_dead_spec k) Tryz.func104 f104_ok <| .cons (ref16_Join_spec k) Tryz.func105 f105_ok <| .cons (ref08_Join_spec k) Tryz.func106 f106_ok <| .cons (ref08_Same_spec k) Tryz.func107 f107_ok <| .nil) codesOk mixedOk ggKeep) Tryz.func84 (fun x => (ref16_stmt_eq ref16_stmt ref16_block k x).symm)
noncomputable def rec84 (k : Nat) (d : Nat) : (Ty.D (.pair (.slice T_api_Sig) (.pair T_api_State (.pair (.st slfB) (.pair tI tI)))) → Option (Ty.D T_api_Flow)) × (Ty.D (.pair (.slice T_api_Sig) (.pair T_api_State (.pair (.slice .slf) (.pair tI tI)))) → Option (Ty.D T_api_Flow)) :=
  Nat.rec (motive := fun _ => (Ty.D (.pair (.slice T_api_Sig) (.pair T_api_State (.pair (.st slfB) (.pair tI tI)))) → Option (Ty.D T_api_Flow)) × (Ty.D (.pair (.slice T_api_Sig) (.pair T_api_State (.pair (.slice .slf) (.pair tI tI)))) → Option (Ty.D T_api_Flow))) ((fun _ => none), (fun _ => none)) (fun _ ih => ((ref16_stmt_ (fun _ => ih.1) (fun _ => ih.2) k), (ref16_block_ (fun _ => ih.1) (fun _ => ih.2) k))) d
noncomputable def ref16_stmt (k : Nat) : (Ty.D (.pair (.slice T_api_Sig) (.pair T_api_State (.pair (.st slfB) (.pair tI tI))))) → Option (Ty.D T_api_Flow) := (rec84 k k).1
noncomputable def ref16_block (k : Nat) : (Ty.D (.pair (.slice T_api_Sig) (.pair T_api_State (.pair (.slice .slf) (.pair tI tI))))) → Option (Ty.D T_api_Flow) := (rec84 k k).2
theorem rec84_spec (k : Nat) : ∀ d : Nat, SpecOk Tryz.prog GG 84 ⟨(.pair (.slice T_api_Sig) (.pair T_api_State (.pair (.st slfB) (.pair tI tI)))), T_api_Flow, (rec84 k d).1⟩ ∧ SpecOk Tryz.prog GG 56 ⟨(.pair (.slice T_api_Sig) (.pair T_api_State (.pair (.slice .slf) (.pair tI tI)))), T_api_Flow, (rec84 k d).2⟩ := by
  intro d
  induction d with
  | zero => exact ⟨specNone, specNone⟩
  | succ d ih => exact ⟨ref16_stmt_specR (fun _ => (rec84 k d).1) (fun _ => (rec84 k d).2) k ih.1 ih.2, ref16_block_specR (fun _ => (rec84 k d).1) (fun _ => (rec84 k d).2) k ih.1 ih.2⟩
theorem ref16_block_spec (k : Nat) : SpecOk Tryz.prog GG 56 ⟨(.pair (.slice T_api_Sig) (.pair T_api_State (.pair (.slice .slf) (.pair tI tI)))), T_api_Flow, ref16_block k⟩ := (rec84_spec k k).2
noncomputable def ref16_Block : (k : Nat) → (Ty.D (.pair (.slice T_api_Sig) (.pair T_api_State (.pair (.slice .slf) (.pair tI tI))))) → Option (Ty.D T_api_Flow) := fun (k : Nat) (x : (T_api_Sig.slice.pair (T_api_State.pair (Ty.slf.slice.pair ((Ty.int IntKind.i64).pair (Ty.int IntKind.i64))))).D) => P.bind (ref08_May k x.2.1) fun (r : Bool) => P.cond (P.not r) (some ([], [], [(i1, (-1 : Int))], false, [], [])) (P.cond (P.ilt x.2.2.2.1 i0) (some ([], [], [(i1, (-1 : Int))], false, [], [])) (P.cond (P.ilt x.2.2.2.2 i0) (some ([], [], [(i1, (-1 : Int))], false, [], [])) (P.cond (P.ilt ((1000000 : Int)) x.2.2.2.1) (some ([], [], [(i1, (-1 : Int))], false, [], [])) (P.cond (P.ilt ((1000000 : Int)) x.2.2.2.2) (some ([], [], [(i1, (-1 : Int))], false, [], [])) (P.bind (ref16_Loops k x.2.2.1) fun (r : Int) => P.cond (P.ilt ((4 : Int)) r) (some ([], [], [((161 : Int), (-1 : Int))], false, [], [])) (P.bind (ref16_block k (x.1, x.2.1, x.2.2.1, x.2.2.2.1, x.2.2.2.2)) fun (r : t3) => some r))))))
theorem ref16_Block_eq (k : Nat) (x : (Ty.D (.pair (.slice T_api_Sig) (.pair T_api_State (.pair (.slice .slf) (.pair tI tI)))))) : evFn (EN k [(54, ⟨T_api_State, .bool, ref08_May k⟩), (55, ⟨(.slice .slf), tI, ref16_Loops k⟩), (56, ⟨(.pair (.slice T_api_Sig) (.pair T_api_State (.pair (.slice .slf) (.pair tI tI)))), T_api_Flow, ref16_block k⟩)]) 6 Tryz.f21 [] (.pair (.slice T_api_Sig) (.pair T_api_State (.pair (.slice .slf) (.pair tI tI)))) T_api_Flow x = ref16_Block k x := by kernel_rfl
theorem ref16_Block_spec (k : Nat) : SpecOk Tryz.prog GG 21 ⟨(.pair (.slice T_api_Sig) (.pair T_api_State (.pair (.slice .slf) (.pair tI tI)))), T_api_Flow, ref16_Block k⟩ :=
  fn_spec (envOk (E := EN k _) tabOk (.cons (ref08_May_spec k) Tryz.func54 f54_ok <| .cons (ref16_Loops_spec k) Tryz.func55 f55_ok <| .cons (ref16_block_spec k) Tryz.func56 f56_ok <| .nil) codesOk mixedOk ggKeep) Tryz.func21 (fun x => (ref16_Block_eq k x).symm)
noncomputable def ref05_With : (k : Nat) → (Ty.D (.pair (.slice .str) .str)) → Option (Ty.D (.slice .str)) := fun (k : Nat) (x : (Ty.str.slice.pair Ty.str).D) => P.bind (P.iter k (fun (y : List ByteArray × Bool × Int) => P.cond (P.ilt y.2.2 (P.len x.1)) (P.cond (P.not y.2.1) (P.cond (P.inb y.2.2 (P.len x.1)) (P.cond (P.sle x.2 (P.get x.1 y.2.2 b0)) (P.cond (P.inb y.2.2 (P.len x.1)) (P.cond (P.slt x.2 (P.get x.1 y.2.2 b0)) (P.cond (P.room (P.add (P.len y.1) (P.len [x.2])) 16) (P.cond (P.inb y.2.2 (P.len x.1)) (P.cond (P.room (P.add (P.len (P.app y.1 [x.2])) (P.len [P.get x.1 y.2.2 b0])) 16) (some (Sum.inl (P.app (P.app y.1 [x.2]) [P.get x.1 y.2.2 b0], true, P.wrap .i64 (P.add y.2.2 i1)))) none) none) none) (P.cond (P.inb y.2.2 (P.len x.1)) (P.cond (P.room (P.add (P.len y.1) (P.len [P.get x.1 y.2.2 b0])) 16) (some (Sum.inl (P.app y.1 [P.get x.1 y.2.2 b0], true, P.wrap .i64 (P.add y.2.2 i1)))) none) none)) none) (P.cond (P.inb y.2.2 (P.len x.1)) (P.cond (P.room (P.add (P.len y.1) (P.len [P.get x.1 y.2.2 b0])) 16) (some (Sum.inl (P.app y.1 [P.get x.1 y.2.2 b0], y.2.1, P.wrap .i64 (P.add y.2.2 i1)))) none) none)) none) (P.cond (P.inb y.2.2 (P.len x.1)) (P.cond (P.room (P.add (P.len y.1) (P.len [P.get x.1 y.2.2 b0])) 16) (some (Sum.inl (P.app y.1 [P.get x.1 y.2.2 b0], y.2.1, P.wrap .i64 (P.add y.2.2 i1)))) none) none)) (some (Sum.inr (Sum.inl (y.1, y.2.1))))) ([], P.seq x.2 b0, i0)) (P.either (fun (z : List ByteArray × Bool) => P.cond (P.not z.2) (P.cond (P.room (P.add (P.len z.1) (P.len [x.2])) 16) (some (P.app z.1 [x.2])) none) (some z.1)) fun (r : List ByteArray) => some r)
theorem ref05_With_eq (k : Nat) (x : (Ty.D (.pair (.slice .str) .str))) : evFn (EN k []) 6 Tryz.f86 [(4, ⟨[.var 5 (.o .str), .var 6 (.d .bool), .var 7 (.d tI)], [], (some (0, [.var 5 (.o .str), .var 6 (.d .bool)]))⟩)] (.pair (.slice .str) .str) (.slice .str) x = ref05_With k x := by kernel_rfl
theorem ref05_With_spec (k : Nat) : SpecOk Tryz.prog GG 86 ⟨(.pair (.slice .str) .str), (.slice .str), ref05_With k⟩ :=
  fn_spec (envOk (E := EN k _) tabOk (.nil) codesOk mixedOk ggKeep) Tryz.func86 (fun x => (ref05_With_eq k x).symm)
noncomputable def ref05_Vars : (k : Nat) → (Ty.D T_api_Func) → Option (Ty.D (.slice .str)) := fun (k : Nat) (x : T_api_Func.D) => let c0 := (P.tof (i0, b0, b0, b0, [], [], [], [])); P.bind (P.iter k (fun (y : List ByteArray × Int) => P.cond (P.ilt y.2 (P.len x.2.1)) (P.cond (P.inb y.2 (P.len x.2.1)) (P.bind (ref05_With k (y.1, P.get x.2.1 y.2 b0)) fun (r : List ByteArray) => some (Sum.inl (r, P.wrap .i64 (P.add y.2 i1)))) none) (some (Sum.inr (Sum.inl y.1)))) ([], i0)) (P.either (fun (z : List ByteArray) => P.bind (ref04_List k x.2.2) fun (r : List Tree) => P.bind (P.iter k (fun (y : List ByteArray × Int) => P.cond (P.ilt y.2 (P.len r)) (P.cond (P.inb y.2 (P.len r)) (P.bind (ref05_With k (y.1, (P.tun (P.get r y.2 c0)).2.1)) fun (r_1 : List ByteArray) => P.cond (P.inb y.2 (P.len r)) (P.bind (ref05_With k (r_1, (P.tun (P.get r y.2 c0)).2.2.1)) fun (r_2 : List ByteArray) => P.bind (P.iter k (fun (y_1 : List ByteArray × Int) => P.cond (P.inb y.2 (P.len r)) (P.cond (P.ilt y_1.2 (P.len (P.tun (P.get r y.2 c0)).2.2.2.2.1)) (P.cond (P.inb y.2 (P.len r)) (P.cond (P.inb y_1.2 (P.len (P.tun (P.get r y.2 c0)).2.2.2.2.1)) (P.cond (P.ieq (P.get (P.tun (P.get r y.2 c0)).2.2.2.2.1 y_1.2 (i0, i0, b0)).1 ((4 : Int))) (P.cond (P.inb y.2 (P.len r)) (P.cond (P.inb y_1.2 (P.len (P.tun (P.get r y.2 c0)).2.2.2.2.1)) (P.bind (ref05_With k (y_1.1, (P.get (P.tun (P.get r y.2 c0)).2.2.2.2.1 y_1.2 (i0, i0, b0)).2.2)) fun (r : List ByteArray) => some (Sum.inl (r, P.wrap .i64 (P.add y_1.2 i1)))) none) none) (some (Sum.inl (y_1.1, P.wrap .i64 (P.add y_1.2 i1))))) none) none) (some (Sum.inr (Sum.inl y_1.1)))) none) (r_2, i0)) (P.either (fun (z : List ByteArray) => some (Sum.inl (z, P.wrap .i64 (P.add y.2 i1)))) fun (r : List ByteArray × Int ⊕ List ByteArray ⊕ List ByteArray) => some r)) none) none) (some (Sum.inr (Sum.inl y.1)))) (z, i0)) (P.either (fun (z : List ByteArray) => some z) fun (r : List ByteArray) => some r)) fun (r : List ByteArray) => some r)
theorem ref05_Vars_eq (k : Nat) (x : (Ty.D T_api_Func)) : evFn (EN k [(47, ⟨(.slice .slf), (.slice .slf), ref04_List k⟩), (86, ⟨(.pair (.slice .str) .str), (.slice .str), ref05_With k⟩)]) 6 Tryz.f57 [(3, ⟨[.var 3 (.d (.slice .str)), .var 4 (.d tI)], [], (some (0, [.var 3 (.d (.slice .str))]))⟩), (8, ⟨[.var 3 (.d (.slice .str)), .var 6 (.d tI)], [], (some (2, [.var 3 (.d (.slice .str))]))⟩), (12, ⟨[.var 3 (.d (.slice .str)), .var 7 (.d tI)], [], (some (4, [.var 3 (.d (.slice .str))]))⟩)] T_api_Func (.slice .str) x = ref05_Vars k x := by kernel_rfl
theorem ref05_Vars_spec (k : Nat) : SpecOk Tryz.prog GG 57 ⟨T_api_Func, (.slice .str), ref05_Vars k⟩ :=
  fn_spec (envOk (E := EN k _) tabOk (.cons (ref04_List_spec k) Tryz.func47 f47_ok <| .cons (ref05_With_spec k) Tryz.func86 f86_ok <| .nil) codesOk mixedOk ggKeep) Tryz.func57 (fun x => (ref05_Vars_eq k x).symm)
noncomputable def ref17_Start : (k : Nat) → (Ty.D T_api_Func) → Option (Ty.D T_api_State) := fun (k : Nat) (x : T_api_Func.D) => P.bind (ref05_Vars k x) fun (r : List ByteArray) => P.bind (P.iter k (fun (y : Int × t4) => P.cond (P.ilt y.1 (P.len r)) (P.bind (ref06_Null k ()) fun (r_1 : List (Int × Int)) => P.bind (P.iter k (fun (y_1 : List (Int × Int) × Int) => P.cond (P.ilt y_1.2 (P.len x.2.1)) (P.cond (P.inb y_1.2 (P.len x.2.1)) (P.cond (P.inb y.1 (P.len r)) (P.cond (P.seq (P.get x.2.1 y_1.2 b0) (P.get r y.1 b0)) (P.bind (ref06_Dyn k ()) fun (r : List (Int × Int)) => some (Sum.inl (r, P.wrap .i64 (P.add y_1.2 i1)))) (some (Sum.inl (y_1.1, P.wrap .i64 (P.add y_1.2 i1))))) none) none) (some (Sum.inr (Sum.inl y_1.1)))) (r_1, i0)) (P.either (fun (z : List (Int × Int)) => P.cond (P.inb y.1 (P.len r)) (P.cond (P.room (P.add (P.len y.2.2.1) (P.len [(P.get r y.1 b0, z)])) 40) (some (Sum.inl (P.wrap .i64 (P.add y.1 i1), y.2.1, P.app y.2.2.1 [(P.get r y.1 b0, z)], y.2.2.2))) none) none) fun (r : Int × t4 ⊕ t4 ⊕ t4) => some r)) (some (Sum.inr (Sum.inl (y.2.1, y.2.2.1, y.2.2.2))))) (i0, false, [], [])) (P.either (fun (z : t4) => some (z.1, z.2.1, z.2.2)) fun (r : t4) => some r)
theorem ref17_Start_eq (k : Nat) (x : (Ty.D T_api_Func)) : evFn (EN k [(26, ⟨.unit, (.slice T_api_Atom), ref06_Null k⟩), (57, ⟨T_api_Func, (.slice .str), ref05_Vars k⟩), (58, ⟨.unit, (.slice T_api_Atom), ref06_Dyn k⟩)]) 6 Tryz.f22 [(4, ⟨[.var 5 (.d tI), .box 3 [] (.s (.p (.d .bool) (.p (.o T_api_Bind) (.d (.slice T_api_Loc)))))], [], (some (0, [.box 3 [] (.s (.p (.d .bool) (.p (.o T_api_Bind) (.d (.slice T_api_Loc)))))]))⟩), (8, ⟨[.var 6 (.d (.slice T_api_Fault)), .var 7 (.d tI)], [], (some (2, [.var 6 (.d (.slice T_api_Fault))]))⟩)] T_api_Func T_api_State x = ref17_Start k x := by kernel_rfl
theorem ref17_Start_spec (k : Nat) : SpecOk Tryz.prog GG 22 ⟨T_api_Func, T_api_State, ref17_Start k⟩ :=
  fn_spec (envOk (E := EN k _) tabOk (.cons (ref06_Null_spec k) Tryz.func26 f26_ok <| .cons (ref05_Vars_spec k) Tryz.func57 f57_ok <| .cons (ref06_Dyn_spec k) Tryz.func58 f58_ok <| .nil) codesOk mixedOk ggKeep) Tryz.func22 (fun x => (ref17_Start_eq k x).symm)
noncomputable def ref17_Check : (k : Nat) → (Ty.D T_api_Program) → Option (Ty.D T_api_Verdict) := fun (k : Nat) (x : T_api_Program.D) => P.cond (P.ilt ((1000 : Int)) (P.len x)) (some (false, [], [], [(i1, (-1 : Int))])) (P.bind (ref05_Check k x) fun (r : Int × Int) => P.cond (P.not (P.ieq r.1 i0)) (some (false, [], [], [r])) (P.bind (ref14_Sigs k x) fun (r : List (t16)) => P.bind (P.iter k (fun (y : Int × t2) => P.cond (P.ilt y.1 (P.len x)) (P.cond (P.inb y.1 (P.len x)) (P.bind (ref17_Start k (P.get x y.1 (b0, [], []))) fun (r_1 : t4) => P.cond (P.inb y.1 (P.len x)) (P.bind (ref16_Block k (r, r_1, (P.get x y.1 (b0, [], [])).2.2, i0, i0)) fun (r : t3) => P.cond (P.room (P.add (P.len y.2.2.1) (P.len [r])) 128) (P.bind (P.iter k (fun (y_1 : Int × t2) => P.cond (P.ilt y_1.1 (P.len r.2.1)) (P.cond (P.inb y_1.1 (P.len r.2.1)) (P.cond (P.room (P.add (P.len y_1.2.2.2.1) (P.len [(y.1, (P.get r.2.1 y_1.1 (i0, i0, i0, i0, b0, i0)).2)])) 56) (some (Sum.inl (P.wrap .i64 (P.add y_1.1 i1), y_1.2.1, y_1.2.2.1, P.app y_1.2.2.2.1 [(y.1, (P.get r.2.1 y_1.1 (i0, i0, i0, i0, b0, i0)).2)], y_1.2.2.2.2))) none) none) (some (Sum.inr (Sum.inl (y_1.2.1, y_1.2.2.1, y_1.2.2.2.1, y_1.2.2.2.2))))) (i0, y.2.1, P.app y.2.2.1 [r], y.2.2.2.1, y.2.2.2.2)) (P.either (fun (z : t2) => P.bind (P.iter k (fun (y_1 : Int × t2) => P.cond (P.ilt y_1.1 (P.len r.2.2.1)) (P.cond (P.inb y_1.1 (P.len r.2.2.1)) (P.cond (P.inb y_1.1 (P.len r.2.2.1)) (P.cond (P.room (P.add (P.len y_1.2.2.2.2) (P.len [((P.get r.2.2.1 y_1.1 (i0, i0)).1, P.wrap .i64 (P.add (P.wrap .i64 (P.add (P.wrap .i64 (P.mul ((10000 : Int)) y.1)) i1)) (P.get r.2.2.1 y_1.1 (i0, i0)).2))])) 16) (some (Sum.inl (P.wrap .i64 (P.add y_1.1 i1), y_1.2.1, y_1.2.2.1, y_1.2.2.2.1, P.app y_1.2.2.2.2 [((P.get r.2.2.1 y_1.1 (i0, i0)).1, P.wrap .i64 (P.add (P.wrap .i64 (P.add (P.wrap .i64 (P.mul ((10000 : Int)) y.1)) i1)) (P.get r.2.2.1 y_1.1 (i0, i0)).2))]))) none) none) none) (some (Sum.inr (Sum.inl (y_1.2.1, y_1.2.2.1, y_1.2.2.2.1, y_1.2.2.2.2))))) (i0, z.1, z.2.1, z.2.2.1, z.2.2.2)) (P.either (fun (z : t2) => some (Sum.inl (P.wrap .i64 (P.add y.1 i1), z.1, z.2.1, z.2.2.1, z.2.2.2))) fun (r : Int × t2 ⊕ t2 ⊕ t2) => some r)) fun (r : Int × t2 ⊕ t2 ⊕ t2) => some r)) none) none) none) (some (Sum.inr (Sum.inl (y.2.1, y.2.2.1, y.2.2.2.1, y.2.2.2.2))))) (i0, false, [], [], [])) (P.either (fun (z : t2) => some (P.ieq (P.len z.2.2.2) i0, z.2.1, z.2.2.1, z.2.2.2)) fun (r : t2) => some r)))
theorem ref17_Check_eq (k : Nat) (x : (Ty.D T_api_Program)) : evFn (EN k [(19, ⟨T_api_Program, T_api_Fault, ref05_Check k⟩), (20, ⟨T_api_Program, (.slice T_api_Sig), ref14_Sigs k⟩), (21, ⟨(.pair (.slice T_api_Sig) (.pair T_api_State (.pair (.slice .slf) (.pair tI tI)))), T_api_Flow, ref16_Block k⟩), (22, ⟨T_api_Func, T_api_State, ref17_Start k⟩)]) 6 Tryz.f8 [(9, ⟨[.var 6 (.d tI), .box 4 [] (.s (.p (.d .bool) (.p (.o T_api_Flow) (.p (.o T_api_Cast) (.o T_api_Fault)))))], [], (some (0, [.box 4 [] (.s (.p (.d .bool) (.p (.o T_api_Flow) (.p (.o T_api_Cast) (.o T_api_Fault)))))]))⟩), (14, ⟨[.var 8 (.d tI), .box 4 [] (.s (.p (.d .bool) (.p (.o T_api_Flow) (.p (.o T_api_Cast) (.o T_api_Fault)))))], [], (some (2, [.box 4 [] (.s (.p (.d .bool) (.p (.o T_api_Flow) (.p (.o T_api_Cast) (.o T_api_Fault)))))]))⟩), (20, ⟨[.var 10 (.d tI), .box 4 [] (.s (.p (.d .bool) (.p (.o T_api_Flow) (.p (.o T_api_Cast) (.o T_api_Fault)))))], [], (some (4, [.box 4 [] (.s (.p (.d .bool) (.p (.o T_api_Flow) (.p (.o T_api_Cast) (.o T_api_Fault)))))]))⟩)] T_api_Program T_api_Verdict x = ref17_Check k x := by kernel_rfl
theorem ref17_Check_spec (k : Nat) : SpecOk Tryz.prog GG 8 ⟨T_api_Program, T_api_Verdict, ref17_Check k⟩ :=
  fn_spec (envOk (E := EN k _) tabOk (.cons (ref05_Check_spec k) Tryz.func19 f19_ok <| .cons (ref14_Sigs_spec k) Tryz.func20 f20_ok <| .cons (ref16_Block_spec k) Tryz.func21 f21_ok <| .cons (ref17_Start_spec k) Tryz.func22 f22_ok <| .nil) codesOk mixedOk ggKeep) Tryz.func8 (fun x => (ref17_Check_eq k x).symm)
noncomputable def ref03_Digits : (k : Nat) → (Ty.D (.int .u64)) → Option (Ty.D .str) := fun (k : Nat) (x : (Ty.int IntKind.u64).D) => P.bind (P.iter k (fun (y : Int × ByteArray) => P.cond (P.ilt ((9 : Int)) y.1) (P.cond (P.not (P.ieq ((10 : Int)) i0)) (P.cond (P.not (P.ieq ((10 : Int)) i0)) (P.cond (P.cut (P.rem y.1 ((10 : Int))) (P.wrap .u64 (P.add (P.rem y.1 ((10 : Int))) i1)) (P.slen (ByteArray.mk #[48, 49, 50, 51, 52, 53, 54, 55, 56, 57]))) (P.cond (P.sfit (P.ssub (ByteArray.mk #[48, 49, 50, 51, 52, 53, 54, 55, 56, 57]) (P.rem y.1 ((10 : Int))) (P.wrap .u64 (P.add (P.rem y.1 ((10 : Int))) i1))) y.2) (P.cond (P.not (P.ieq ((10 : Int)) i0)) (some (Sum.inl (P.wrap .u64 (P.quo y.1 ((10 : Int))), P.scat (P.ssub (ByteArray.mk #[48, 49, 50, 51, 52, 53, 54, 55, 56, 57]) (P.rem y.1 ((10 : Int))) (P.wrap .u64 (P.add (P.rem y.1 ((10 : Int))) i1))) y.2))) none) none) none) none) none) (some (Sum.inr (Sum.inl (y.1, y.2))))) (x, b0)) (P.either (fun (z : Int × ByteArray) => P.cond (P.cut z.1 (P.wrap .u64 (P.add z.1 i1)) (P.slen (ByteArray.mk #[48, 49, 50, 51, 52, 53, 54, 55, 56, 57]))) (P.cond (P.sfit (P.ssub (ByteArray.mk #[48, 49, 50, 51, 52, 53, 54, 55, 56, 57]) z.1 (P.wrap .u64 (P.add z.1 i1))) z.2) (some (P.scat (P.ssub (ByteArray.mk #[48, 49, 50, 51, 52, 53, 54, 55, 56, 57]) z.1 (P.wrap .u64 (P.add z.1 i1))) z.2)) none) none) fun (r : ByteArray) => some r)
theorem ref03_Digits_eq (k : Nat) (x : (Ty.D (.int .u64))) : evFn (EN k []) 6 Tryz.f162 [(2, ⟨[.var 0 (.d (.int .u64)), .var 3 (.d .str)], [], (some (0, [.var 0 (.d (.int .u64)), .var 3 (.d .str)]))⟩)] (.int .u64) .str x = ref03_Digits k x := by kernel_rfl
theorem ref03_Digits_spec (k : Nat) : SpecOk Tryz.prog GG 162 ⟨(.int .u64), .str, ref03_Digits k⟩ :=
  fn_spec (envOk (E := EN k _) tabOk (.nil) codesOk mixedOk ggKeep) Tryz.func162 (fun x => (ref03_Digits_eq k x).symm)
noncomputable def ref03_Signed : (k : Nat) → (Ty.D tI) → Option (Ty.D .str) := fun (k : Nat) (x : (Ty.int IntKind.i64).D) => P.cond (P.ilt x i0) (P.bind (ref03_Digits k (P.wrap .u64 (P.add (P.wrap .u64 (P.wrap .i64 (P.sub i0 (P.wrap .i64 (P.add x i1))))) i1))) fun (r : ByteArray) => P.cond (P.sfit (ByteArray.mk #[45]) r) (some (P.scat (ByteArray.mk #[45]) r)) none) (P.bind (ref03_Digits k (P.wrap .u64 x)) fun (r : ByteArray) => some r)
theorem ref03_Signed_eq (k : Nat) (x : (Ty.D tI)) : evFn (EN k [(162, ⟨(.int .u64), .str, ref03_Digits k⟩)]) 6 Tryz.f134 [] tI .str x = ref03_Signed k x := by kernel_rfl
theorem ref03_Signed_spec (k : Nat) : SpecOk Tryz.prog GG 134 ⟨tI, .str, ref03_Signed k⟩ :=
  fn_spec (envOk (E := EN k _) tabOk (.cons (ref03_Digits_spec k) Tryz.func162 f162_ok <| .nil) codesOk mixedOk ggKeep) Tryz.func134 (fun x => (ref03_Signed_eq k x).symm)
noncomputable def ref03_operand : (k : Nat) → (Ty.D T_api_Operand) → Option (Ty.D .str) := fun (k : Nat) (x : T_api_Operand.D) => P.cond (P.ieq x.1 i0) (some (ByteArray.mk #[110, 117, 108, 108])) (P.cond (P.ieq x.1 i1) (P.cond (P.ieq x.2.1 i1) (some (ByteArray.mk #[116, 114, 117, 101])) (some (ByteArray.mk #[102, 97, 108, 115, 101]))) (P.cond (P.ieq x.1 ((2 : Int))) (P.bind (ref03_Signed k x.2.1) fun (r : ByteArray) => some r) (P.cond (P.ieq x.1 ((3 : Int))) (P.cond (P.sfit (ByteArray.mk #[38, 32]) x.2.2) (some (P.scat (ByteArray.mk #[38, 32]) x.2.2)) none) (some x.2.2))))
theorem ref03_operand_eq (k : Nat) (x : (Ty.D T_api_Operand)) : evFn (EN k [(134, ⟨tI, .str, ref03_Signed k⟩)]) 6 Tryz.f109 [] T_api_Operand .str x = ref03_operand k x := by kernel_rfl
theorem ref03_operand_spec (k : Nat) : SpecOk Tryz.prog GG 109 ⟨T_api_Operand, .str, ref03_operand k⟩ :=
  fn_spec (envOk (E := EN k _) tabOk (.cons (ref03_Signed_spec k) Tryz.func134 f134_ok <| .nil) codesOk mixedOk ggKeep) Tryz.func109 (fun x => (ref03_operand_eq k x).symm)
noncomputable def ref03_args : (k : Nat) → (Ty.D (.slice T_api_Operand)) → Option (Ty.D .str) := fun (k : Nat) (x : T_api_Operand.slice.D) => P.bind (P.iter k (fun (y : ByteArray × Int) => P.cond (P.ilt y.2 (P.len x)) (P.cond (P.ilt i0 y.2) (P.cond (P.sfit y.1 (ByteArray.mk #[44, 32])) (P.cond (P.inb y.2 (P.len x)) (P.bind (ref03_operand k (P.get x y.2 (i0, i0, b0))) fun (r : ByteArray) => P.cond (P.sfit r (ByteArray.mk #[32])) (P.cond (P.sfit (P.scat y.1 (ByteArray.mk #[44, 32])) (P.scat r (ByteArray.mk #[32]))) (some (Sum.inl (P.scat (P.scat y.1 (ByteArray.mk #[44, 32])) (P.scat r (ByteArray.mk #[32])), P.wrap .i64 (P.add y.2 i1)))) none) none) none) none) (P.cond (P.inb y.2 (P.len x)) (P.bind (ref03_operand k (P.get x y.2 (i0, i0, b0))) fun (r : ByteArray) => P.cond (P.sfit r (ByteArray.mk #[32])) (P.cond (P.sfit y.1 (P.scat r (ByteArray.mk #[32]))) (some (Sum.inl (P.scat y.1 (P.scat r (ByteArray.mk #[32])), P.wrap .i64 (P.add y.2 i1)))) none) none) none)) (some (Sum.inr (Sum.inl y.1)))) ((ByteArray.mk #[40, 32]), i0)) (P.either (fun (z : ByteArray) => P.cond (P.sfit z (ByteArray.mk #[41])) (some (P.scat z (ByteArray.mk #[41]))) none) fun (r : ByteArray) => some r)
theorem ref03_args_eq (k : Nat) (x : (Ty.D (.slice T_api_Operand))) : evFn (EN k [(109, ⟨T_api_Operand, .str, ref03_operand k⟩)]) 6 Tryz.f110 [(3, ⟨[.var 3 (.d .str), .var 4 (.d tI)], [], (some (0, [.var 3 (.d .str)]))⟩)] (.slice T_api_Operand) .str x = ref03_args k x := by kernel_rfl
theorem ref03_args_spec (k : Nat) : SpecOk Tryz.prog GG 110 ⟨(.slice T_api_Operand), .str, ref03_args k⟩ :=
  fn_spec (envOk (E := EN k _) tabOk (.cons (ref03_operand_spec k) Tryz.func109 f109_ok <| .nil) codesOk mixedOk ggKeep) Tryz.func110 (fun x => (ref03_args_eq k x).symm)
noncomputable def ref03_block_ (ref03_text : Nat → (Ty.D (.st slfB)) → Option (Ty.D .str)) (ref03_block : Nat → (Ty.D (.slice .slf)) → Option (Ty.D .str)) : (k : Nat) → (Ty.D (.slice .slf)) → Option (Ty.D .str) := fun (k : Nat) (x : Ty.slf.slice.D) => P.bind (P.iter k (fun (y : ByteArray × Int) => P.cond (P.ilt y.2 (P.len x)) (P.cond (P.inb y.2 (P.len x)) (P.bind (ref03_text k (P.tun (P.get x y.2 (P.tof (i0, b0, b0, b0, [], [], [], []))))) fun (r : ByteArray) => P.cond (P.sfit r (ByteArray.mk #[32])) (P.cond (P.sfit y.1 (P.scat r (ByteArray.mk #[32]))) (some (Sum.inl (P.scat y.1 (P.scat r (ByteArray.mk #[32])), P.wrap .i64 (P.add y.2 i1)))) none) none) none) (some (Sum.inr (Sum.inl y.1)))) ((ByteArray.mk #[123, 32]), i0)) (P.either (fun (z : ByteArray) => P.cond (P.sfit z (ByteArray.mk #[125])) (some (P.scat z (ByteArray.mk #[125]))) none) fun (r : ByteArray) => some r)
theorem ref03_block_eq (ref03_text : Nat → (Ty.D (.st slfB)) → Option (Ty.D .str)) (ref03_block : Nat → (Ty.D (.slice .slf)) → Option (Ty.D .str)) (k : Nat) (x : (Ty.D (.slice .slf))) : evFn (EN k [(90, ⟨(.st slfB), .str, ref03_text k⟩)]) 6 Tryz.f62 [(3, ⟨[.var 3 (.d .str), .var 4 (.d tI)], [], (some (0, [.var 3 (.d .str)]))⟩)] (.slice .slf) .str x = ref03_block_ ref03_text ref03_block k x := by kernel_rfl
theorem ref03_block_specR (ref03_text : Nat → (Ty.D (.st slfB)) → Option (Ty.D .str)) (ref03_block : Nat → (Ty.D (.slice .slf)) → Option (Ty.D .str)) (k : Nat) (h90 : SpecOk Tryz.prog GG 90 ⟨(.st slfB), .str, ref03_text k⟩) (h62 : SpecOk Tryz.prog GG 62 ⟨(.slice .slf), .str, ref03_block k⟩) : SpecOk Tryz.prog GG 62 ⟨(.slice .slf), .str, ref03_block_ ref03_text ref03_block k⟩ :=
  fn_spec (envOk (E := EN k _) tabOk (.cons h90 Tryz.func90 f90_ok <| .nil) codesOk mixedOk ggKeep) Tryz.func62 (fun x => (ref03_block_eq ref03_text ref03_block k x).symm)
noncomputable def ref03_text_ (ref03_text : Nat → (Ty.D (.st slfB)) → Option (Ty.D .str)) (ref03_block : Nat → (Ty.D (.slice .slf)) → Option (Ty.D .str)) : (k : Nat) → (Ty.D (.st slfB)) → Option (Ty.D .str) := fun (k : Nat) (x : slfB.st.D) => let c0 := (ref03_operand k (P.get x.2.2.2.2.1 i0 (i0, i0, b0))); let c1 := (P.scat (P.scat x.2.1 (ByteArray.mk #[32, 61, 32, 99, 97, 108, 108, 32])) x.2.2.2.1); let c2 := (P.scat (P.scat (P.scat x.2.1 (ByteArray.mk #[32, 46, 32])) x.2.2.2.1) (ByteArray.mk #[32, 61, 32])); let c3 := (P.scat (P.scat (P.scat x.2.1 (ByteArray.mk #[32, 61, 32])) x.2.2.1) (ByteArray.mk #[32, 46, 32])); let c4 := (P.scat (P.scat (P.scat x.2.1 (ByteArray.mk #[32, 61, 32])) x.2.2.1) (ByteArray.mk #[32])); P.cond (P.ieq x.1 i0) (P.cond (P.sfit x.2.1 (ByteArray.mk #[32, 61, 32])) (P.cond (P.inb i0 (P.len x.2.2.2.2.1)) (P.bind c0 fun (r : ByteArray) => P.cond (P.sfit (P.scat x.2.1 (ByteArray.mk #[32, 61, 32])) r) (P.cond (P.sfit (P.scat (P.scat x.2.1 (ByteArray.mk #[32, 61, 32])) r) (ByteArray.mk #[32, 59])) (some (P.scat (P.scat (P.scat x.2.1 (ByteArray.mk #[32, 61, 32])) r) (ByteArray.mk #[32, 59]))) none) none) none) none) (P.cond (P.ieq x.1 i1) (P.cond (P.sfit x.2.1 (ByteArray.mk #[32, 61, 32])) (P.cond (P.inb i0 (P.len x.2.2.2.2.1)) (P.bind c0 fun (r : ByteArray) => P.cond (P.sfit (P.scat x.2.1 (ByteArray.mk #[32, 61, 32])) r) (P.cond (P.sfit (P.scat (P.scat x.2.1 (ByteArray.mk #[32, 61, 32])) r) (ByteArray.mk #[32])) (P.cond (P.sfit (P.scat (P.scat (P.scat x.2.1 (ByteArray.mk #[32, 61, 32])) r) (ByteArray.mk #[32])) x.2.2.2.1) (P.cond (P.sfit (P.scat (P.scat (P.scat (P.scat x.2.1 (ByteArray.mk #[32, 61, 32])) r) (ByteArray.mk #[32])) x.2.2.2.1) (ByteArray.mk #[32])) (P.cond (P.inb i1 (P.len x.2.2.2.2.1)) (P.bind (ref03_operand k (P.get x.2.2.2.2.1 i1 (i0, i0, b0))) fun (r_1 : ByteArray) => P.cond (P.sfit (P.scat (P.scat (P.scat (P.scat (P.scat x.2.1 (ByteArray.mk #[32, 61, 32])) r) (ByteArray.mk #[32])) x.2.2.2.1) (ByteArray.mk #[32])) r_1) (P.cond (P.sfit (P.scat (P.scat (P.scat (P.scat (P.scat (P.scat x.2.1 (ByteArray.mk #[32, 61, 32])) r) (ByteArray.mk #[32])) x.2.2.2.1) (ByteArray.mk #[32])) r_1) (ByteArray.mk #[32, 59])) (some (P.scat (P.scat (P.scat (P.scat (P.scat (P.scat (P.scat x.2.1 (ByteArray.mk #[32, 61, 32])) r) (ByteArray.mk #[32])) x.2.2.2.1) (ByteArray.mk #[32])) r_1) (ByteArray.mk #[32, 59]))) none) none) none) none) none) none) none) none) none) (P.cond (P.ieq x.1 ((2 : Int))) (P.cond (P.sfit x.2.1 (ByteArray.mk #[32, 61, 32])) (P.cond (P.sfit (P.scat x.2.1 (ByteArray.mk #[32, 61, 32])) x.2.2.1) (P.cond (P.sfit (P.scat (P.scat x.2.1 (ByteArray.mk #[32, 61, 32])) x.2.2.1) (ByteArray.mk #[32, 46, 32])) (P.cond (P.sfit c3 x.2.2.2.1) (P.cond (P.sfit (P.scat c3 x.2.2.2.1) (ByteArray.mk #[32, 59])) (some (P.scat (P.scat c3 x.2.2.2.1) (ByteArray.mk #[32, 59]))) none) none) none) none) none) (P.cond (P.ieq x.1 ((3 : Int))) (P.cond (P.sfit x.2.1 (ByteArray.mk #[32, 46, 32])) (P.cond (P.sfit (P.scat x.2.1 (ByteArray.mk #[32, 46, 32])) x.2.2.2.1) (P.cond (P.sfit (P.scat (P.scat x.2.1 (ByteArray.mk #[32, 46, 32])) x.2.2.2.1) (ByteArray.mk #[32, 61, 32])) (P.cond (P.inb i0 (P.len x.2.2.2.2.1)) (P.bind c0 fun (r : ByteArray) => P.cond (P.sfit c2 r) (P.cond (P.sfit (P.scat c2 r) (ByteArray.mk #[32, 59])) (some (P.scat (P.scat c2 r) (ByteArray.mk #[32, 59]))) none) none) none) none) none) none) (P.cond (P.ieq x.1 ((4 : Int))) (P.cond (P.sfit x.2.1 (ByteArray.mk #[32, 61, 32, 110, 101, 119, 32, 123, 32])) (P.bind (P.iter k (fun (y : ByteArray × Int) => P.cond (P.ilt y.2 (P.len x.2.2.2.2.2.1)) (P.cond (P.ilt i0 y.2) (P.cond (P.sfit y.1 (ByteArray.mk #[44, 32])) (P.cond (P.inb y.2 (P.len x.2.2.2.2.2.1)) (P.cond (P.sfit (P.get x.2.2.2.2.2.1 y.2 b0) (ByteArray.mk #[32, 58, 32])) (P.cond (P.inb y.2 (P.len x.2.2.2.2.1)) (P.bind (ref03_operand k (P.get x.2.2.2.2.1 y.2 (i0, i0, b0))) fun (r : ByteArray) => P.cond (P.sfit (P.scat (P.get x.2.2.2.2.2.1 y.2 b0) (ByteArray.mk #[32, 58, 32])) r) (P.cond (P.sfit (P.scat (P.scat (P.get x.2.2.2.2.2.1 y.2 b0) (ByteArray.mk #[32, 58, 32])) r) (ByteArray.mk #[32])) (P.cond (P.sfit (P.scat y.1 (ByteArray.mk #[44, 32])) (P.scat (P.scat (P.scat (P.get x.2.2.2.2.2.1 y.2 b0) (ByteArray.mk #[32, 58, 32])) r) (ByteArray.mk #[32]))) (some (Sum.inl (P.scat (P.scat y.1 (ByteArray.mk #[44, 32])) (P.scat (P.scat (P.scat (P.get x.2.2.2.2.2.1 y.2 b0) (ByteArray.mk #[32, 58, 32])) r) (ByteArray.mk #[32])), P.wrap .i64 (P.add y.2 i1)))) none) none) none) none) none) none) none) (P.cond (P.inb y.2 (P.len x.2.2.2.2.2.1)) (P.cond (P.sfit (P.get x.2.2.2.2.2.1 y.2 b0) (ByteArray.mk #[32, 58, 32])) (P.cond (P.inb y.2 (P.len x.2.2.2.2.1)) (P.bind (ref03_operand k (P.get x.2.2.2.2.1 y.2 (i0, i0, b0))) fun (r : ByteArray) => P.cond (P.sfit (P.scat (P.get x.2.2.2.2.2.1 y.2 b0) (ByteArray.mk #[32, 58, 32])) r) (P.cond (P.sfit (P.scat (P.scat (P.get x.2.2.2.2.2.1 y.2 b0) (ByteArray.mk #[32, 58, 32])) r) (ByteArray.mk #[32])) (P.cond (P.sfit y.1 (P.scat (P.scat (P.scat (P.get x.2.2.2.2.2.1 y.2 b0) (ByteArray.mk #[32, 58, 32])) r) (ByteArray.mk #[32]))) (some (Sum.inl (P.scat y.1 (P.scat (P.scat (P.scat (P.get x.2.2.2.2.2.1 y.2 b0) (ByteArray.mk #[32, 58, 32])) r) (ByteArray.mk #[32])), P.wrap .i64 (P.add y.2 i1)))) none) none) none) none) none) none)) (some (Sum.inr (Sum.inl y.1)))) (P.scat x.2.1 (ByteArray.mk #[32, 61, 32, 110, 101, 119, 32, 123, 32]), i0)) (P.either (fun (z : ByteArray) => P.cond (P.sfit z (ByteArray.mk #[125, 32, 112, 114, 111, 116, 111, 32])) (P.cond (P.inb (P.len x.2.2.2.2.2.1) (P.len x.2.2.2.2.1)) (P.bind (ref03_operand k (P.get x.2.2.2.2.1 (P.len x.2.2.2.2.2.1) (i0, i0, b0))) fun (r : ByteArray) => P.cond (P.sfit (P.scat z (ByteArray.mk #[125, 32, 112, 114, 111, 116, 111, 32])) r) (P.cond (P.sfit (P.scat (P.scat z (ByteArray.mk #[125, 32, 112, 114, 111, 116, 111, 32])) r) (ByteArray.mk #[32, 59])) (some (P.scat (P.scat (P.scat z (ByteArray.mk #[125, 32, 112, 114, 111, 116, 111, 32])) r) (ByteArray.mk #[32, 59]))) none) none) none) none) fun (r : ByteArray) => some r)) none) (P.cond (P.ieq x.1 ((5 : Int))) (P.cond (P.sfit x.2.1 (ByteArray.mk #[32, 61, 32, 99, 97, 108, 108, 32])) (P.cond (P.sfit (P.scat x.2.1 (ByteArray.mk #[32, 61, 32, 99, 97, 108, 108, 32])) x.2.2.2.1) (P.cond (P.sfit c1 (ByteArray.mk #[32])) (P.bind (ref03_args k x.2.2.2.2.1) fun (r : ByteArray) => P.cond (P.sfit (P.scat c1 (ByteArray.mk #[32])) r) (P.cond (P.sfit (P.scat (P.scat c1 (ByteArray.mk #[32])) r) (ByteArray.mk #[32, 59])) (some (P.scat (P.scat (P.scat c1 (ByteArray.mk #[32])) r) (ByteArray.mk #[32, 59]))) none) none) none) none) none) (P.cond (P.ieq x.1 ((6 : Int))) (P.cond (P.sfit x.2.1 (ByteArray.mk #[32, 61, 32])) (P.cond (P.sfit (P.scat x.2.1 (ByteArray.mk #[32, 61, 32])) x.2.2.1) (P.cond (P.sfit (P.scat (P.scat x.2.1 (ByteArray.mk #[32, 61, 32])) x.2.2.1) (ByteArray.mk #[32])) (P.bind (ref03_args k x.2.2.2.2.1) fun (r : ByteArray) => P.cond (P.sfit c4 r) (P.cond (P.sfit (P.scat c4 r) (ByteArray.mk #[32, 59])) (some (P.scat (P.scat c4 r) (ByteArray.mk #[32, 59]))) none) none) none) none) none) (P.cond (P.ieq x.1 ((7 : Int))) (P.cond (P.sfit x.2.1 (ByteArray.mk #[32, 61, 32, 105, 110, 32, 59])) (some (P.scat x.2.1 (ByteArray.mk #[32, 61, 32, 105, 110, 32, 59]))) none) (P.cond (P.ieq x.1 ((8 : Int))) (P.cond (P.inb i0 (P.len x.2.2.2.2.1)) (P.bind c0 fun (r : ByteArray) => P.cond (P.sfit (ByteArray.mk #[111, 117, 116, 32]) r) (P.cond (P.sfit (P.scat (ByteArray.mk #[111, 117, 116, 32]) r) (ByteArray.mk #[32, 59])) (some (P.scat (P.scat (ByteArray.mk #[111, 117, 116, 32]) r) (ByteArray.mk #[32, 59]))) none) none) none) (P.cond (P.ieq x.1 ((9 : Int))) (P.cond (P.inb i0 (P.len x.2.2.2.2.1)) (P.bind c0 fun (r : ByteArray) => P.cond (P.sfit (ByteArray.mk #[105, 102, 32]) r) (P.cond (P.sfit (P.scat (ByteArray.mk #[105, 102, 32]) r) (ByteArray.mk #[32])) (P.bind (ref03_block k x.2.2.2.2.2.2.1) fun (r_1 : ByteArray) => P.cond (P.sfit (P.scat (P.scat (ByteArray.mk #[105, 102, 32]) r) (ByteArray.mk #[32])) r_1) (P.cond (P.ilt i0 (P.len x.2.2.2.2.2.2.2)) (P.bind (ref03_block k x.2.2.2.2.2.2.2) fun (r_2 : ByteArray) => P.cond (P.sfit (ByteArray.mk #[32, 101, 108, 115, 101, 32]) r_2) (P.cond (P.sfit (P.scat (P.scat (P.scat (ByteArray.mk #[105, 102, 32]) r) (ByteArray.mk #[32])) r_1) (P.scat (ByteArray.mk #[32, 101, 108, 115, 101, 32]) r_2)) (some (P.scat (P.scat (P.scat (P.scat (ByteArray.mk #[105, 102, 32]) r) (ByteArray.mk #[32])) r_1) (P.scat (ByteArray.mk #[32, 101, 108, 115, 101, 32]) r_2))) none) none) (some (P.scat (P.scat (P.scat (ByteArray.mk #[105, 102, 32]) r) (ByteArray.mk #[32])) r_1))) none) none) none) none) (P.cond (P.ieq x.1 ((10 : Int))) (P.cond (P.inb i0 (P.len x.2.2.2.2.1)) (P.bind c0 fun (r : ByteArray) => P.cond (P.sfit (ByteArray.mk #[119, 104, 105, 108, 101, 32]) r) (P.cond (P.sfit (P.scat (ByteArray.mk #[119, 104, 105, 108, 101, 32]) r) (ByteArray.mk #[32])) (P.bind (ref03_block k x.2.2.2.2.2.2.1) fun (r_1 : ByteArray) => P.cond (P.sfit (P.scat (P.scat (ByteArray.mk #[119, 104, 105, 108, 101, 32]) r) (ByteArray.mk #[32])) r_1) (some (P.scat (P.scat (P.scat (ByteArray.mk #[119, 104, 105, 108, 101, 32]) r) (ByteArray.mk #[32])) r_1)) none) none) none) none) (P.cond (P.inb i0 (P.len x.2.2.2.2.1)) (P.bind c0 fun (r : ByteArray) => P.cond (P.sfit (ByteArray.mk #[114, 101, 116, 117, 114, 110, 32]) r) (P.cond (P.sfit (P.scat (ByteArray.mk #[114, 101, 116, 117, 114, 110, 32]) r) (ByteArray.mk #[32, 59])) (some (P.scat (P.scat (ByteArray.mk #[114, 101, 116, 117, 114, 110, 32]) r) (ByteArray.mk #[32, 59]))) none) none) none)))))))))))
theorem ref03_text_eq (ref03_text : Nat → (Ty.D (.st slfB)) → Option (Ty.D .str)) (ref03_block : Nat → (Ty.D (.slice .slf)) → Option (Ty.D .str)) (k : Nat) (x : (Ty.D (.st slfB))) : evFn (EN k [(62, ⟨(.slice .slf), .str, ref03_block k⟩), (109, ⟨T_api_Operand, .str, ref03_operand k⟩), (110, ⟨(.slice T_api_Operand), .str, ref03_args k⟩)]) 6 Tryz.f90 [(13, ⟨[.var 3 (.d .str), .var 4 (.d tI)], [], (some (1, [.var 3 (.d .str)]))⟩)] (.st slfB) .str x = ref03_text_ ref03_text ref03_block k x := by kernel_rfl
theorem ref03_text_specR (ref03_text : Nat → (Ty.D (.st slfB)) → Option (Ty.D .str)) (ref03_block : Nat → (Ty.D (.slice .slf)) → Option (Ty.D .str)) (k : Nat) (h90 : SpecOk Tryz.prog GG 90 ⟨(.st slfB), .str, ref03_text k⟩) (h62 : SpecOk Tryz.prog GG 62 ⟨(.slice .slf), .str, ref03_block k⟩) : SpecOk Tryz.prog GG 90 ⟨(.st slfB), .str, ref03_text_ ref03_text ref03_block k⟩ :=
  fn_spec (envOk (E := EN k _) tabOk (.cons h62 Tryz.func62 f62_ok <| .cons (ref03_operand_spec k) Tryz.func109 f109_ok <| .cons (ref03_args_spec k) Tryz.func110 f110_ok <| .nil) codesOk mixedOk ggKeep) Tryz.func90 (fun x => (ref03_text_eq ref03_text ref03_block k x).symm)
noncomputable def rec90 (k : Nat) (d : Nat) : (Ty.D (.st slfB) → Option (Ty.D .str)) × (Ty.D (.slice .slf) → Option (Ty.D .str)) :=
  Nat.rec (motive := fun _ => (Ty.D (.st slfB) → Option (Ty.D .str)) × (Ty.D (.slice .slf) → Option (Ty.D .str))) ((fun _ => none), (fun _ => none)) (fun _ ih => ((ref03_text_ (fun _ => ih.1) (fun _ => ih.2) k), (ref03_block_ (fun _ => ih.1) (fun _ => ih.2) k))) d
noncomputable def ref03_text (k : Nat) : (Ty.D (.st slfB)) → Option (Ty.D .str) := (rec90 k k).1
noncomputable def ref03_block (k : Nat) : (Ty.D (.slice .slf)) → Option (Ty.D .str) := (rec90 k k).2
theorem rec90_spec (k : Nat) : ∀ d : Nat, SpecOk Tryz.prog GG 90 ⟨(.st slfB), .str, (rec90 k d).1⟩ ∧ SpecOk Tryz.prog GG 62 ⟨(.slice .slf), .str, (rec90 k d).2⟩ := by
  intro d
  induction d with
  | zero => exact ⟨specNone, specNone⟩
  | succ d ih => exact ⟨ref03_text_specR (fun _ => (rec90 k d).1) (fun _ => (rec90 k d).2) k ih.1 ih.2, ref03_block_specR (fun _ => (rec90 k d).1) (fun _ => (rec90 k d).2) k ih.1 ih.2⟩
theorem ref03_block_spec (k : Nat) : SpecOk Tryz.prog GG 62 ⟨(.slice .slf), .str, ref03_block k⟩ := (rec90_spec k k).2
noncomputable def ref03_spelt : (k : Nat) → (Ty.D T_api_Program) → Option (Ty.D .str) := fun (k : Nat) (x : T_api_Program.D) => P.bind (P.iter k (fun (y : ByteArray × Int) => P.cond (P.ilt y.2 (P.len x)) (P.cond (P.inb y.2 (P.len x)) (P.cond (P.sfit (ByteArray.mk #[102, 117, 110, 32]) (P.get x y.2 (b0, [], [])).1) (P.cond (P.sfit (P.scat (ByteArray.mk #[102, 117, 110, 32]) (P.get x y.2 (b0, [], [])).1) (ByteArray.mk #[32, 40, 32])) (P.cond (P.sfit y.1 (P.scat (P.scat (ByteArray.mk #[102, 117, 110, 32]) (P.get x y.2 (b0, [], [])).1) (ByteArray.mk #[32, 40, 32]))) (P.bind (P.iter k (fun (y_1 : ByteArray × Int) => P.cond (P.ilt y_1.2 (P.len (P.get x y.2 (b0, [], [])).2.1)) (P.cond (P.ilt i0 y_1.2) (P.cond (P.sfit y_1.1 (ByteArray.mk #[44, 32])) (P.cond (P.inb y_1.2 (P.len (P.get x y.2 (b0, [], [])).2.1)) (P.cond (P.sfit (P.get (P.get x y.2 (b0, [], [])).2.1 y_1.2 b0) (ByteArray.mk #[32])) (P.cond (P.sfit (P.scat y_1.1 (ByteArray.mk #[44, 32])) (P.scat (P.get (P.get x y.2 (b0, [], [])).2.1 y_1.2 b0) (ByteArray.mk #[32]))) (some (Sum.inl (P.scat (P.scat y_1.1 (ByteArray.mk #[44, 32])) (P.scat (P.get (P.get x y.2 (b0, [], [])).2.1 y_1.2 b0) (ByteArray.mk #[32])), P.wrap .i64 (P.add y_1.2 i1)))) none) none) none) none) (P.cond (P.inb y_1.2 (P.len (P.get x y.2 (b0, [], [])).2.1)) (P.cond (P.sfit (P.get (P.get x y.2 (b0, [], [])).2.1 y_1.2 b0) (ByteArray.mk #[32])) (P.cond (P.sfit y_1.1 (P.scat (P.get (P.get x y.2 (b0, [], [])).2.1 y_1.2 b0) (ByteArray.mk #[32]))) (some (Sum.inl (P.scat y_1.1 (P.scat (P.get (P.get x y.2 (b0, [], [])).2.1 y_1.2 b0) (ByteArray.mk #[32])), P.wrap .i64 (P.add y_1.2 i1)))) none) none) none)) (some (Sum.inr (Sum.inl y_1.1)))) (P.scat y.1 (P.scat (P.scat (ByteArray.mk #[102, 117, 110, 32]) (P.get x y.2 (b0, [], [])).1) (ByteArray.mk #[32, 40, 32])), i0)) (P.either (fun (z : ByteArray) => P.bind (ref03_block k (P.get x y.2 (b0, [], [])).2.2) fun (r : ByteArray) => P.cond (P.sfit (ByteArray.mk #[41, 32]) r) (P.cond (P.sfit (P.scat (ByteArray.mk #[41, 32]) r) (ByteArray.mk #[10])) (P.cond (P.sfit z (P.scat (P.scat (ByteArray.mk #[41, 32]) r) (ByteArray.mk #[10]))) (some (Sum.inl (P.scat z (P.scat (P.scat (ByteArray.mk #[41, 32]) r) (ByteArray.mk #[10])), P.wrap .i64 (P.add y.2 i1)))) none) none) none) fun (r : ByteArray × Int ⊕ ByteArray ⊕ ByteArray) => some r)) none) none) none) none) (some (Sum.inr (Sum.inl y.1)))) (b0, i0)) (P.either (fun (z : ByteArray) => some z) fun (r : ByteArray) => some r)
theorem ref03_spelt_eq (k : Nat) (x : (Ty.D T_api_Program)) : evFn (EN k [(62, ⟨(.slice .slf), .str, ref03_block k⟩)]) 6 Tryz.f24 [(3, ⟨[.var 3 (.d .str), .var 4 (.d tI)], [], (some (0, [.var 3 (.d .str)]))⟩), (8, ⟨[.var 3 (.d .str), .var 6 (.d tI)], [], (some (2, [.var 3 (.d .str)]))⟩)] T_api_Program .str x = ref03_spelt k x := by kernel_rfl
theorem ref03_spelt_spec (k : Nat) : SpecOk Tryz.prog GG 24 ⟨T_api_Program, .str, ref03_spelt k⟩ :=
  fn_spec (envOk (E := EN k _) tabOk (.cons (ref03_block_spec k) Tryz.func62 f62_ok <| .nil) codesOk mixedOk ggKeep) Tryz.func24 (fun x => (ref03_spelt_eq k x).symm)
noncomputable def ref03_rightOperand : (k : Nat) → (Ty.D T_api_Operand) → Option (Ty.D .bool) := fun (k : Nat) (x : T_api_Operand.D) => P.cond (P.ieq x.1 i0) (P.cond (P.ieq x.2.1 i0) (some (P.seq x.2.2 b0)) (some false)) (P.cond (P.ieq x.1 i1) (P.cond (P.ieq x.2.1 i0) (some (P.seq x.2.2 b0)) (P.cond (P.ieq x.2.1 i1) (some (P.seq x.2.2 b0)) (some false))) (P.cond (P.ieq x.1 ((2 : Int))) (P.cond (P.ile i0 x.2.1) (P.cond (P.ile x.2.1 ((999999999 : Int))) (some (P.seq x.2.2 b0)) (some false)) (some false)) (P.cond (P.ieq x.1 ((3 : Int))) (P.cond (P.ieq x.2.1 i0) (P.bind (ref02_Name k x.2.2) fun (r : Bool) => some r) (some false)) (P.cond (P.ieq x.1 ((4 : Int))) (P.cond (P.ieq x.2.1 i0) (P.bind (ref02_Name k x.2.2) fun (r : Bool) => some r) (some false)) (some false)))))
theorem ref03_rightOperand_eq (k : Nat) (x : (Ty.D T_api_Operand)) : evFn (EN k [(59, ⟨.str, .bool, ref02_Name k⟩)]) 6 Tryz.f108 [] T_api_Operand .bool x = ref03_rightOperand k x := by kernel_rfl
theorem ref03_rightOperand_spec (k : Nat) : SpecOk Tryz.prog GG 108 ⟨T_api_Operand, .bool, ref03_rightOperand k⟩ :=
  fn_spec (envOk (E := EN k _) tabOk (.cons (ref02_Name_spec k) Tryz.func59 f59_ok <| .nil) codesOk mixedOk ggKeep) Tryz.func108 (fun x => (ref03_rightOperand_eq k x).symm)
noncomputable def ref03_rightBlock_ (ref03_rightStmt : Nat → (Ty.D (.pair (.st slfB) tI)) → Option (Ty.D .bool)) (ref03_rightBlock : Nat → (Ty.D (.pair (.slice .slf) tI)) → Option (Ty.D .bool)) : (k : Nat) → (Ty.D (.pair (.slice .slf) tI)) → Option (Ty.D .bool) := fun (k : Nat) (x : (Ty.slf.slice.pair (Ty.int IntKind.i64)).D) => P.bind (P.iter k (fun (y : Int) => P.cond (P.ilt y (P.len x.1)) (P.cond (P.inb y (P.len x.1)) (P.bind (ref03_rightStmt k (P.tun (P.get x.1 y (P.tof (i0, b0, b0, b0, [], [], [], []))), x.2)) fun (r : Bool) => P.cond (P.not r) (some (Sum.inr (Sum.inr false))) (some (Sum.inl (P.wrap .i64 (P.add y i1))))) none) (some (Sum.inr (Sum.inl ())))) i0) (P.either (fun (z : PUnit) => some true) fun (r : Bool) => some r)
theorem ref03_rightBlock_eq (ref03_rightStmt : Nat → (Ty.D (.pair (.st slfB) tI)) → Option (Ty.D .bool)) (ref03_rightBlock : Nat → (Ty.D (.pair (.slice .slf) tI)) → Option (Ty.D .bool)) (k : Nat) (x : (Ty.D (.pair (.slice .slf) tI))) : evFn (EN k [(89, ⟨(.pair (.st slfB) tI), .bool, ref03_rightStmt k⟩)]) 6 Tryz.f60 [(2, ⟨[.var 5 (.d tI)], [], (some (0, []))⟩)] (.pair (.slice .slf) tI) .bool x = ref03_rightBlock_ ref03_rightStmt ref03_rightBlock k x := by kernel_rfl
theorem ref03_rightBlock_specR (ref03_rightStmt : Nat → (Ty.D (.pair (.st slfB) tI)) → Option (Ty.D .bool)) (ref03_rightBlock : Nat → (Ty.D (.pair (.slice .slf) tI)) → Option (Ty.D .bool)) (k : Nat) (h89 : SpecOk Tryz.prog GG 89 ⟨(.pair (.st slfB) tI), .bool, ref03_rightStmt k⟩) (h60 : SpecOk Tryz.prog GG 60 ⟨(.pair (.slice .slf) tI), .bool, ref03_rightBlock k⟩) : SpecOk Tryz.prog GG 60 ⟨(.pair (.slice .slf) tI), .bool, ref03_rightBlock_ ref03_rightStmt ref03_rightBlock k⟩ :=
  fn_spec (envOk (E := EN k _) tabOk (.cons h89 Tryz.func89 f89_ok <| .nil) codesOk mixedOk ggKeep) Tryz.func60 (fun x => (ref03_rightBlock_eq ref03_rightStmt ref03_rightBlock k x).symm)
noncomputable def ref03_rightStmt_ (ref03_rightStmt : Nat → (Ty.D (.pair (.st slfB) tI)) → Option (Ty.D .bool)) (ref03_rightBlock : Nat → (Ty.D (.pair (.slice .slf) tI)) → Option (Ty.D .bool)) : (k : Nat) → (Ty.D (.pair (.st slfB) tI)) → Option (Ty.D .bool) := fun (k : Nat) (x : (slfB.st.pair (Ty.int IntKind.i64)).D) => let c0 := (P.bind (ref02_Name k x.1.2.1) fun (r : Bool) => P.cond (P.ieq x.1.1 i0) (P.cond r (P.cond (P.seq x.1.2.2.1 b0) (P.cond (P.seq x.1.2.2.2.1 b0) (some (P.ieq (P.len x.1.2.2.2.2.1) i1)) (some false)) (some false)) (some false)) (P.cond (P.ieq x.1.1 i1) (P.cond r (P.cond (P.seq x.1.2.2.1 b0) (P.cond (P.seq x.1.2.2.2.1 (ByteArray.mk #[43])) (some (P.ieq (P.len x.1.2.2.2.2.1) ((2 : Int)))) (P.cond (P.seq x.1.2.2.2.1 (ByteArray.mk #[45])) (some (P.ieq (P.len x.1.2.2.2.2.1) ((2 : Int)))) (P.cond (P.seq x.1.2.2.2.1 (ByteArray.mk #[42])) (some (P.ieq (P.len x.1.2.2.2.2.1) ((2 : Int)))) (P.cond (P.seq x.1.2.2.2.1 (ByteArray.mk #[60])) (some (P.ieq (P.len x.1.2.2.2.2.1) ((2 : Int)))) (P.cond (P.seq x.1.2.2.2.1 (ByteArray.mk #[61])) (some (P.ieq (P.len x.1.2.2.2.2.1) ((2 : Int)))) (some false)))))) (some false)) (some false)) (P.cond (P.ieq x.1.1 ((2 : Int))) (P.cond r (P.bind (ref02_Name k x.1.2.2.1) fun (r : Bool) => P.cond r (P.bind (ref02_Name k x.1.2.2.2.1) fun (r : Bool) => P.cond r (some (P.ieq (P.len x.1.2.2.2.2.1) i0)) (some false)) (some false)) (some false)) (P.cond (P.ieq x.1.1 ((3 : Int))) (P.cond r (P.cond (P.seq x.1.2.2.1 b0) (P.bind (ref02_Name k x.1.2.2.2.1) fun (r : Bool) => P.cond r (some (P.ieq (P.len x.1.2.2.2.2.1) i1)) (some false)) (some false)) (some false)) (P.cond (P.ieq x.1.1 ((4 : Int))) (P.cond r (P.cond (P.seq x.1.2.2.1 b0) (P.cond (P.seq x.1.2.2.2.1 b0) (some (P.ieq (P.len x.1.2.2.2.2.1) (P.wrap .i64 (P.add (P.len x.1.2.2.2.2.2.1) i1)))) (some false)) (some false)) (some false)) (P.cond (P.ieq x.1.1 ((5 : Int))) (P.cond r (P.cond (P.seq x.1.2.2.1 b0) (P.bind (ref02_Name k x.1.2.2.2.1) fun (r : Bool) => some r) (some false)) (some false)) (P.cond (P.ieq x.1.1 ((6 : Int))) (P.cond r (P.bind (ref02_Name k x.1.2.2.1) fun (r : Bool) => P.cond r (some (P.seq x.1.2.2.2.1 b0)) (some false)) (some false)) (P.cond (P.ieq x.1.1 ((7 : Int))) (P.cond r (P.cond (P.seq x.1.2.2.1 b0) (P.cond (P.seq x.1.2.2.2.1 b0) (some (P.ieq (P.len x.1.2.2.2.2.1) i0)) (some false)) (some false)) (some false)) (P.cond (P.not (P.seq x.1.2.1 b0)) (some false) (P.cond (P.not (P.seq x.1.2.2.1 b0)) (some false) (P.cond (P.not (P.seq x.1.2.2.2.1 b0)) (some false) (P.cond (P.not (P.ieq (P.len x.1.2.2.2.2.1) i1)) (some false) (P.cond (P.ieq x.1.1 ((9 : Int))) (P.cond (P.ilt i0 x.2) (P.bind (ref03_rightBlock k (x.1.2.2.2.2.2.2.1, P.wrap .i64 (P.sub x.2 i1))) fun (r : Bool) => P.cond r (P.cond (P.ieq (P.len x.1.2.2.2.2.2.2.2) i0) (some true) (P.bind (ref03_rightBlock k (x.1.2.2.2.2.2.2.2, P.wrap .i64 (P.sub x.2 i1))) fun (r : Bool) => some r)) (some false)) (some false)) (P.cond (P.ieq x.1.1 ((10 : Int))) (P.cond (P.ilt i0 x.2) (P.bind (ref03_rightBlock k (x.1.2.2.2.2.2.2.1, P.wrap .i64 (P.sub x.2 i1))) fun (r : Bool) => P.cond r (P.cond (P.ieq (P.len x.1.2.2.2.2.2.2.2) i0) (some true) (P.bind (ref03_rightBlock k (x.1.2.2.2.2.2.2.2, P.wrap .i64 (P.sub x.2 i1))) fun (r : Bool) => some r)) (some false)) (some false)) (P.cond (P.ieq x.1.1 ((8 : Int))) (some true) (some (P.ieq x.1.1 ((11 : Int))))))))))))))))))); let c1 := (P.cond (P.not (P.ieq x.1.1 ((9 : Int)))) (P.cond (P.ilt i0 (P.len x.1.2.2.2.2.2.2.2)) (some false) c0) c0); let c2 := (P.cond (P.not (P.ieq x.1.1 ((9 : Int)))) (P.cond (P.not (P.ieq x.1.1 ((10 : Int)))) (P.cond (P.ilt i0 (P.len x.1.2.2.2.2.2.2.1)) (some false) c1) c1) c1); P.bind (P.iter k (fun (y : Int) => P.cond (P.ilt y (P.len x.1.2.2.2.2.1)) (P.cond (P.inb y (P.len x.1.2.2.2.2.1)) (P.bind (ref03_rightOperand k (P.get x.1.2.2.2.2.1 y (i0, i0, b0))) fun (r : Bool) => P.cond (P.not r) (some (Sum.inr (Sum.inr false))) (some (Sum.inl (P.wrap .i64 (P.add y i1))))) none) (some (Sum.inr (Sum.inl ())))) i0) (P.either (fun (z : PUnit) => P.bind (P.iter k (fun (y : Int) => P.cond (P.ilt y (P.len x.1.2.2.2.2.2.1)) (P.cond (P.inb y (P.len x.1.2.2.2.2.2.1)) (P.bind (ref02_Name k (P.get x.1.2.2.2.2.2.1 y b0)) fun (r : Bool) => P.cond (P.not r) (some (Sum.inr (Sum.inr false))) (some (Sum.inl (P.wrap .i64 (P.add y i1))))) none) (some (Sum.inr (Sum.inl ())))) i0) (P.either (fun (z : PUnit) => P.cond (P.not (P.ieq x.1.1 ((4 : Int)))) (P.cond (P.ilt i0 (P.len x.1.2.2.2.2.2.1)) (some false) c2) c2) fun (r : Bool) => some r)) fun (r : Bool) => some r)
theorem ref03_rightStmt_eq (ref03_rightStmt : Nat → (Ty.D (.pair (.st slfB) tI)) → Option (Ty.D .bool)) (ref03_rightBlock : Nat → (Ty.D (.pair (.slice .slf) tI)) → Option (Ty.D .bool)) (k : Nat) (x : (Ty.D (.pair (.st slfB) tI))) : evFn (EN k [(59, ⟨.str, .bool, ref02_Name k⟩), (60, ⟨(.pair (.slice .slf) tI), .bool, ref03_rightBlock k⟩), (108, ⟨T_api_Operand, .bool, ref03_rightOperand k⟩)]) 6 Tryz.f89 [(2, ⟨[.var 5 (.d tI)], [], (some (0, []))⟩), (7, ⟨[.var 6 (.d tI)], [], (some (2, []))⟩)] (.pair (.st slfB) tI) .bool x = ref03_rightStmt_ ref03_rightStmt ref03_rightBlock k x := by kernel_rfl
theorem ref03_rightStmt_specR (ref03_rightStmt : Nat → (Ty.D (.pair (.st slfB) tI)) → Option (Ty.D .bool)) (ref03_rightBlock : Nat → (Ty.D (.pair (.slice .slf) tI)) → Option (Ty.D .bool)) (k : Nat) (h89 : SpecOk Tryz.prog GG 89 ⟨(.pair (.st slfB) tI), .bool, ref03_rightStmt k⟩) (h60 : SpecOk Tryz.prog GG 60 ⟨(.pair (.slice .slf) tI), .bool, ref03_rightBlock k⟩) : SpecOk Tryz.prog GG 89 ⟨(.pair (.st slfB) tI), .bool, ref03_rightStmt_ ref03_rightStmt ref03_rightBlock k⟩ :=
  fn_spec (envOk (E := EN k _) tabOk (.cons (ref02_Name_spec k) Tryz.func59 f59_ok <| .cons h60 Tryz.func60 f60_ok <| .cons (ref03_rightOperand_spec k) Tryz.func108 f108_ok <| .nil) codesOk mixedOk ggKeep) Tryz.func89 (fun x => (ref03_rightStmt_eq ref03_rightStmt ref03_rightBlock k x).symm)
noncomputable def rec89 (k : Nat) (d : Nat) : (Ty.D (.pair (.st slfB) tI) → Option (Ty.D .bool)) × (Ty.D (.pair (.slice .slf) tI) → Option (Ty.D .bool)) :=
  Nat.rec (motive := fun _ => (Ty.D (.pair (.st slfB) tI) → Option (Ty.D .bool)) × (Ty.D (.pair (.slice .slf) tI) → Option (Ty.D .bool))) ((fun _ => none), (fun _ => none)) (fun _ ih => ((ref03_rightStmt_ (fun _ => ih.1) (fun _ => ih.2) k), (ref03_rightBlock_ (fun _ => ih.1) (fun _ => ih.2) k))) d
noncomputable def ref03_rightStmt (k : Nat) : (Ty.D (.pair (.st slfB) tI)) → Option (Ty.D .bool) := (rec89 k k).1
noncomputable def ref03_rightBlock (k : Nat) : (Ty.D (.pair (.slice .slf) tI)) → Option (Ty.D .bool) := (rec89 k k).2
theorem rec89_spec (k : Nat) : ∀ d : Nat, SpecOk Tryz.prog GG 89 ⟨(.pair (.st slfB) tI), .bool, (rec89 k d).1⟩ ∧ SpecOk Tryz.prog GG 60 ⟨(.pair (.slice .slf) tI), .bool, (rec89 k d).2⟩ := by
  intro d
  induction d with
  | zero => exact ⟨specNone, specNone⟩
  | succ d ih => exact ⟨ref03_rightStmt_specR (fun _ => (rec89 k d).1) (fun _ => (rec89 k d).2) k ih.1 ih.2, ref03_rightBlock_specR (fun _ => (rec89 k d).1) (fun _ => (rec89 k d).2) k ih.1 ih.2⟩
theorem ref03_rightBlock_spec (k : Nat) : SpecOk Tryz.prog GG 60 ⟨(.pair (.slice .slf) tI), .bool, ref03_rightBlock k⟩ := (rec89_spec k k).2
noncomputable def ref03_Count_ (ref03_Count : Nat → (Ty.D (.slice .slf)) → Option (Ty.D tI)) : (k : Nat) → (Ty.D (.slice .slf)) → Option (Ty.D tI) := fun (k : Nat) (x : Ty.slf.slice.D) => P.bind (P.iter k (fun (y : Int × Int) => P.cond (P.ilt y.2 (P.len x)) (P.cond (P.inb y.2 (P.len x)) (P.bind (ref03_Count k (P.tun (P.get x y.2 (P.tof (i0, b0, b0, b0, [], [], [], [])))).2.2.2.2.2.2.1) fun (r : Int) => P.cond (P.inb y.2 (P.len x)) (P.bind (ref03_Count k (P.tun (P.get x y.2 (P.tof (i0, b0, b0, b0, [], [], [], [])))).2.2.2.2.2.2.2) fun (r_1 : Int) => some (Sum.inl (P.wrap .i64 (P.add y.1 (P.wrap .i64 (P.add r r_1))), P.wrap .i64 (P.add y.2 i1)))) none) none) (some (Sum.inr (Sum.inl y.1)))) (P.len x, i0)) (P.either (fun (z : Int) => some z) fun (r : Int) => some r)
theorem ref03_Count_eq (ref03_Count : Nat → (Ty.D (.slice .slf)) → Option (Ty.D tI)) (k : Nat) (x : (Ty.D (.slice .slf))) : evFn (EN k [(61, ⟨(.slice .slf), tI, ref03_Count k⟩)]) 6 Tryz.f61 [(3, ⟨[.var 3 (.d tI), .var 4 (.d tI)], [], (some (0, [.var 3 (.d tI)]))⟩)] (.slice .slf) tI x = ref03_Count_ ref03_Count k x := by kernel_rfl
theorem ref03_Count_specR (ref03_Count : Nat → (Ty.D (.slice .slf)) → Option (Ty.D tI)) (k : Nat) (h61 : SpecOk Tryz.prog GG 61 ⟨(.slice .slf), tI, ref03_Count k⟩) : SpecOk Tryz.prog GG 61 ⟨(.slice .slf), tI, ref03_Count_ ref03_Count k⟩ :=
  fn_spec (envOk (E := EN k _) tabOk (.cons h61 Tryz.func61 f61_ok <| .nil) codesOk mixedOk ggKeep) Tryz.func61 (fun x => (ref03_Count_eq ref03_Count k x).symm)
noncomputable def rec61 (k : Nat) (d : Nat) : (Ty.D (.slice .slf) → Option (Ty.D tI)) :=
  Nat.rec (motive := fun _ => (Ty.D (.slice .slf) → Option (Ty.D tI))) (fun _ => none) (fun _ ih => (ref03_Count_ (fun _ => ih) k)) d
noncomputable def ref03_Count (k : Nat) : (Ty.D (.slice .slf)) → Option (Ty.D tI) := (rec61 k k)
theorem rec61_spec (k : Nat) : ∀ d : Nat, SpecOk Tryz.prog GG 61 ⟨(.slice .slf), tI, (rec61 k d)⟩ := by
  intro d
  induction d with
  | zero => exact specNone
  | succ d ih => exact ref03_Count_specR (fun _ => (rec61 k d)) k ih
theorem ref03_Count_spec (k : Nat) : SpecOk Tryz.prog GG 61 ⟨(.slice .slf), tI, ref03_Count k⟩ := (rec61_spec k k)
noncomputable def ref03_May : (k : Nat) → (Ty.D T_api_Program) → Option (Ty.D .bool) := fun (k : Nat) (x : T_api_Program.D) => P.bind (P.iter k (fun (y : Int × Int) => P.cond (P.ilt y.2 (P.len x)) (P.cond (P.inb y.2 (P.len x)) (P.bind (ref02_Name k (P.get x y.2 (b0, [], [])).1) fun (r : Bool) => P.cond (P.not r) (some (Sum.inr (Sum.inr false))) (P.bind (ref03_rightBlock k ((P.get x y.2 (b0, [], [])).2.2, (31 : Int))) fun (r : Bool) => P.cond (P.not r) (some (Sum.inr (Sum.inr false))) (P.bind (P.iter k (fun (y_1 : Int) => P.cond (P.ilt y_1 (P.len (P.get x y.2 (b0, [], [])).2.1)) (P.cond (P.inb y_1 (P.len (P.get x y.2 (b0, [], [])).2.1)) (P.bind (ref02_Name k (P.get (P.get x y.2 (b0, [], [])).2.1 y_1 b0)) fun (r : Bool) => P.cond (P.not r) (some (Sum.inr (Sum.inr (Sum.inr (Sum.inr false))))) (some (Sum.inl (P.wrap .i64 (P.add y_1 i1))))) none) (some (Sum.inr (Sum.inl ())))) i0) (P.either (fun (z : PUnit) => P.bind (ref03_Count k (P.get x y.2 (b0, [], [])).2.2) fun (r : Int) => some (Sum.inl (P.wrap .i64 (P.add y.1 r), P.wrap .i64 (P.add y.2 i1)))) fun (r : Int × Int ⊕ Int ⊕ Bool) => some r)))) none) (some (Sum.inr (Sum.inl y.1)))) (i0, i0)) (P.either (fun (z : Int) => P.cond (P.ile z ((2000 : Int))) (P.bind (ref03_spelt k x) fun (r : ByteArray) => some (P.ile (P.slen r) ((65536 : Int)))) (some false)) fun (r : Bool) => some r)
theorem ref03_May_eq (k : Nat) (x : (Ty.D T_api_Program)) : evFn (EN k [(24, ⟨T_api_Program, .str, ref03_spelt k⟩), (59, ⟨.str, .bool, ref02_Name k⟩), (60, ⟨(.pair (.slice .slf) tI), .bool, ref03_rightBlock k⟩), (61, ⟨(.slice .slf), tI, ref03_Count k⟩)]) 6 Tryz.f23 [(3, ⟨[.var 3 (.d tI), .var 4 (.d tI)], [], (some (0, [.var 3 (.d tI)]))⟩), (9, ⟨[.var 6 (.d tI)], [], (some (2, []))⟩)] T_api_Program .bool x = ref03_May k x := by kernel_rfl
theorem ref03_May_spec (k : Nat) : SpecOk Tryz.prog GG 23 ⟨T_api_Program, .bool, ref03_May k⟩ :=
  fn_spec (envOk (E := EN k _) tabOk (.cons (ref03_spelt_spec k) Tryz.func24 f24_ok <| .cons (ref02_Name_spec k) Tryz.func59 f59_ok <| .cons (ref03_rightBlock_spec k) Tryz.func60 f60_ok <| .cons (ref03_Count_spec k) Tryz.func61 f61_ok <| .nil) codesOk mixedOk ggKeep) Tryz.func23 (fun x => (ref03_May_eq k x).symm)
noncomputable def ref03_Program : (k : Nat) → (Ty.D T_api_Program) → Option (Ty.D .str) := fun (k : Nat) (x : T_api_Program.D) => P.bind (ref03_May k x) fun (r : Bool) => P.cond (P.not r) (some b0) (P.bind (ref03_spelt k x) fun (r : ByteArray) => some r)
theorem ref03_Program_eq (k : Nat) (x : (Ty.D T_api_Program)) : evFn (EN k [(23, ⟨T_api_Program, .bool, ref03_May k⟩), (24, ⟨T_api_Program, .str, ref03_spelt k⟩)]) 6 Tryz.f9 [] T_api_Program .str x = ref03_Program k x := by kernel_rfl
theorem ref03_Program_spec (k : Nat) : SpecOk Tryz.prog GG 9 ⟨T_api_Program, .str, ref03_Program k⟩ :=
  fn_spec (envOk (E := EN k _) tabOk (.cons (ref03_May_spec k) Tryz.func23 f23_ok <| .cons (ref03_spelt_spec k) Tryz.func24 f24_ok <| .nil) codesOk mixedOk ggKeep) Tryz.func9 (fun x => (ref03_Program_eq k x).symm)
noncomputable def ref19_With : (k : Nat) → (Ty.D (.pair (.slice T_api_Prop) (.pair .str T_api_Val))) → Option (Ty.D (.slice T_api_Prop)) := fun (k : Nat) (x : (T_api_Prop.slice.pair (Ty.str.pair T_api_Val)).D) => P.bind (P.iter k (fun (y : List (ByteArray × Int × Int) × Bool × Int) => P.cond (P.ilt y.2.2 (P.len x.1)) (P.cond (P.not y.2.1) (P.cond (P.inb y.2.2 (P.len x.1)) (P.cond (P.sle x.2.1 (P.get x.1 y.2.2 (b0, i0, i0)).1) (P.cond (P.room (P.add (P.len y.1) (P.len [(x.2.1, x.2.2)])) 32) (P.cond (P.inb y.2.2 (P.len x.1)) (P.cond (P.not (P.seq (P.get x.1 y.2.2 (b0, i0, i0)).1 x.2.1)) (P.cond (P.inb y.2.2 (P.len x.1)) (P.cond (P.room (P.add (P.len (P.app y.1 [(x.2.1, x.2.2)])) (P.len [P.get x.1 y.2.2 (b0, i0, i0)])) 32) (some (Sum.inl (P.app (P.app y.1 [(x.2.1, x.2.2)]) [P.get x.1 y.2.2 (b0, i0, i0)], true, P.wrap .i64 (P.add y.2.2 i1)))) none) none) (some (Sum.inl (P.app y.1 [(x.2.1, x.2.2)], true, P.wrap .i64 (P.add y.2.2 i1))))) none) none) (P.cond (P.inb y.2.2 (P.len x.1)) (P.cond (P.not (P.seq (P.get x.1 y.2.2 (b0, i0, i0)).1 x.2.1)) (P.cond (P.inb y.2.2 (P.len x.1)) (P.cond (P.room (P.add (P.len y.1) (P.len [P.get x.1 y.2.2 (b0, i0, i0)])) 32) (some (Sum.inl (P.app y.1 [P.get x.1 y.2.2 (b0, i0, i0)], y.2.1, P.wrap .i64 (P.add y.2.2 i1)))) none) none) (some (Sum.inl (y.1, y.2.1, P.wrap .i64 (P.add y.2.2 i1))))) none)) none) (P.cond (P.inb y.2.2 (P.len x.1)) (P.cond (P.not (P.seq (P.get x.1 y.2.2 (b0, i0, i0)).1 x.2.1)) (P.cond (P.inb y.2.2 (P.len x.1)) (P.cond (P.room (P.add (P.len y.1) (P.len [P.get x.1 y.2.2 (b0, i0, i0)])) 32) (some (Sum.inl (P.app y.1 [P.get x.1 y.2.2 (b0, i0, i0)], y.2.1, P.wrap .i64 (P.add y.2.2 i1)))) none) none) (some (Sum.inl (y.1, y.2.1, P.wrap .i64 (P.add y.2.2 i1))))) none)) (some (Sum.inr (Sum.inl (y.1, y.2.1))))) ([], false, i0)) (P.either (fun (z : List (ByteArray × Int × Int) × Bool) => P.cond (P.not z.2) (P.cond (P.room (P.add (P.len z.1) (P.len [(x.2.1, x.2.2)])) 32) (some (P.app z.1 [(x.2.1, x.2.2)])) none) (some z.1)) fun (r : List (ByteArray × Int × Int)) => some r)
theorem ref19_With_eq (k : Nat) (x : (Ty.D (.pair (.slice T_api_Prop) (.pair .str T_api_Val)))) : evFn (EN k []) 6 Tryz.f111 [(4, ⟨[.var 7 (.o T_api_Prop), .var 8 (.d .bool), .var 9 (.d tI)], [], (some (0, [.var 7 (.o T_api_Prop), .var 8 (.d .bool)]))⟩)] (.pair (.slice T_api_Prop) (.pair .str T_api_Val)) (.slice T_api_Prop) x = ref19_With k x := by kernel_rfl
theorem ref19_With_spec (k : Nat) : SpecOk Tryz.prog GG 111 ⟨(.pair (.slice T_api_Prop) (.pair .str T_api_Val)), (.slice T_api_Prop), ref19_With k⟩ :=
  fn_spec (envOk (E := EN k _) tabOk (.nil) codesOk mixedOk ggKeep) Tryz.func111 (fun x => (ref19_With_eq k x).symm)
noncomputable def ref21_Set : (k : Nat) → (Ty.D (.pair T_api_Frame (.pair .str T_api_Val))) → Option (Ty.D T_api_Frame) := fun (k : Nat) (x : (T_api_Frame.pair (Ty.str.pair T_api_Val)).D) => P.bind (ref19_With k (x.1.1, x.2.1, x.2.2)) fun (r : List (ByteArray × Int × Int)) => some (r, x.1.2)
theorem ref21_Set_eq (k : Nat) (x : (Ty.D (.pair T_api_Frame (.pair .str T_api_Val)))) : evFn (EN k [(111, ⟨(.pair (.slice T_api_Prop) (.pair .str T_api_Val)), (.slice T_api_Prop), ref19_With k⟩)]) 6 Tryz.f91 [] (.pair T_api_Frame (.pair .str T_api_Val)) T_api_Frame x = ref21_Set k x := by kernel_rfl
theorem ref21_Set_spec (k : Nat) : SpecOk Tryz.prog GG 91 ⟨(.pair T_api_Frame (.pair .str T_api_Val)), T_api_Frame, ref21_Set k⟩ :=
  fn_spec (envOk (E := EN k _) tabOk (.cons (ref19_With_spec k) Tryz.func111 f111_ok <| .nil) codesOk mixedOk ggKeep) Tryz.func91 (fun x => (ref21_Set_eq k x).symm)
noncomputable def ref22_on : (k : Nat) → (Ty.D T_proteanref22_Turn) → Option (Ty.D .bool) := fun (k : Nat) (x : T_proteanref22_Turn.D) => P.cond (P.ilt x.1.2.2.2.2.2.2.2.1 (0 : Int)) (some (P.not x.2.2.1)) (some false)
theorem ref22_on_eq (k : Nat) (x : (Ty.D T_proteanref22_Turn)) : evFn (EN k []) 6 Tryz.f112 [] T_proteanref22_Turn .bool x = ref22_on k x := by kernel_rfl
theorem ref22_on_spec (k : Nat) : SpecOk Tryz.prog GG 112 ⟨T_proteanref22_Turn, .bool, ref22_on k⟩ :=
  fn_spec (envOk (E := EN k _) tabOk (.nil) codesOk mixedOk ggKeep) Tryz.func112 (fun x => (ref22_on_eq k x).symm)
noncomputable def ref22_stop : (k : Nat) → (Ty.D (.pair T_proteanref22_Turn (.pair (.int .i64) (.int .i64)))) → Option (Ty.D T_proteanref22_Turn) := fun (k : Nat) (x : (T_proteanref22_Turn.pair ((Ty.int IntKind.i64).pair (Ty.int IntKind.i64))).D) => some ((x.1.1.1, x.1.1.2.1, x.1.1.2.2.1, x.1.1.2.2.2.1, x.1.1.2.2.2.2.1, x.1.1.2.2.2.2.2.1, x.1.1.2.2.2.2.2.2.1, x.2.1, x.2.2, x.1.1.2.2.2.2.2.2.2.2.2), x.1.2)
theorem ref22_stop_eq (k : Nat) (x : (Ty.D (.pair T_proteanref22_Turn (.pair tI tI)))) : evFn (EN k []) 6 Tryz.f136 [] (.pair T_proteanref22_Turn (.pair tI tI)) T_proteanref22_Turn x = ref22_stop k x := by kernel_rfl
theorem ref22_stop_spec (k : Nat) : SpecOk Tryz.prog GG 136 ⟨(.pair T_proteanref22_Turn (.pair tI tI)), T_proteanref22_Turn, ref22_stop k⟩ :=
  fn_spec (envOk (E := EN k _) tabOk (.nil) codesOk mixedOk ggKeep) Tryz.func136 (fun x => (ref22_stop_eq k x).symm)
noncomputable def ref21_Var : (k : Nat) → (Ty.D (.pair T_api_Frame .str)) → Option (Ty.D T_api_Val) := fun (k : Nat) (x : (T_api_Frame.pair Ty.str).D) => P.bind (P.iter k (fun (y : Int) => P.cond (P.ilt y (P.len x.1.1)) (P.cond (P.inb y (P.len x.1.1)) (P.cond (P.seq (P.get x.1.1 y (b0, i0, i0)).1 x.2) (P.cond (P.inb y (P.len x.1.1)) (some (Sum.inr (Sum.inr (P.get x.1.1 y (b0, i0, i0)).2))) none) (some (Sum.inl (P.wrap .i64 (P.add y i1))))) none) (some (Sum.inr (Sum.inl ())))) i0) (P.either (fun (z : PUnit) => some (i0, i0)) fun (r : Int × Int) => some r)
theorem ref21_Var_eq (k : Nat) (x : (Ty.D (.pair T_api_Frame .str))) : evFn (EN k []) 6 Tryz.f141 [(2, ⟨[.var 5 (.d tI)], [4], (some (0, []))⟩)] (.pair T_api_Frame .str) T_api_Val x = ref21_Var k x := by kernel_rfl
theorem ref21_Var_spec (k : Nat) : SpecOk Tryz.prog GG 141 ⟨(.pair T_api_Frame .str), T_api_Val, ref21_Var k⟩ :=
  fn_spec (envOk (E := EN k _) tabOk (.nil) codesOk mixedOk ggKeep) Tryz.func141 (fun x => (ref21_Var_eq k x).symm)
noncomputable def ref22_val : (k : Nat) → (Ty.D (.pair T_proteanref22_Turn T_api_Operand)) → Option (Ty.D T_api_Val) := fun (k : Nat) (x : (T_proteanref22_Turn.pair T_api_Operand).D) => P.cond (P.ieq x.2.1 (1 : Int)) (some ((1 : Int), x.2.2.1)) (P.cond (P.ieq x.2.1 ((2 : Int))) (some ((2 : Int), x.2.2.1)) (P.cond (P.ieq x.2.1 ((3 : Int))) (P.bind (ref05_Fun k (x.1.1.1, x.2.2.2)) fun (r : Int) => some ((3 : Int), r)) (P.cond (P.ieq x.2.1 ((4 : Int))) (P.bind (ref21_Var k (x.1.2.1, x.2.2.2)) fun (r : Int × Int) => some r) (some ((0 : Int), (0 : Int))))))
theorem ref22_val_eq (k : Nat) (x : (Ty.D (.pair T_proteanref22_Turn T_api_Operand))) : evFn (EN k [(45, ⟨(.pair T_api_Program .str), tI, ref05_Fun k⟩), (141, ⟨(.pair T_api_Frame .str), T_api_Val, ref21_Var k⟩)]) 6 Tryz.f166 [] (.pair T_proteanref22_Turn T_api_Operand) T_api_Val x = ref22_val k x := by kernel_rfl
theorem ref22_val_spec (k : Nat) : SpecOk Tryz.prog GG 166 ⟨(.pair T_proteanref22_Turn T_api_Operand), T_api_Val, ref22_val k⟩ :=
  fn_spec (envOk (E := EN k _) tabOk (.cons (ref05_Fun_spec k) Tryz.func45 f45_ok <| .cons (ref21_Var_spec k) Tryz.func141 f141_ok <| .nil) codesOk mixedOk ggKeep) Tryz.func166 (fun x => (ref22_val_eq k x).symm)
noncomputable def ref22_vals : (k : Nat) → (Ty.D (.pair T_proteanref22_Turn (.slice T_api_Operand))) → Option (Ty.D (.slice T_api_Val)) := fun (k : Nat) (x : (T_proteanref22_Turn.pair T_api_Operand.slice).D) => P.bind (P.iter k (fun (y : List (Int × Int) × Int) => P.cond (P.ilt y.2 (P.len x.2)) (P.cond (P.inb y.2 (P.len x.2)) (P.bind (ref22_val k (x.1, P.get x.2 y.2 ((0 : Int), (0 : Int), (ByteArray.mk #[])))) fun (r : Int × Int) => P.cond (P.room (P.add (P.len y.1) (P.len [r])) 16) (some (Sum.inl (P.app y.1 [r], P.wrap .i64 (P.add y.2 (1 : Int))))) none) none) (some (Sum.inr (Sum.inl y.1)))) ([], (0 : Int))) (P.either (fun (z : List (Int × Int)) => some z) fun (r : List (Int × Int)) => some r)
theorem ref22_vals_eq (k : Nat) (x : (Ty.D (.pair T_proteanref22_Turn (.slice T_api_Operand)))) : evFn (EN k [(166, ⟨(.pair T_proteanref22_Turn T_api_Operand), T_api_Val, ref22_val k⟩)]) 6 Tryz.f137 [(3, ⟨[.var 5 (.o T_api_Fault), .var 6 (.d tI)], [], (some (0, [.var 5 (.o T_api_Fault)]))⟩)] (.pair T_proteanref22_Turn (.slice T_api_Operand)) (.slice T_api_Val) x = ref22_vals k x := by kernel_rfl
theorem ref22_vals_spec (k : Nat) : SpecOk Tryz.prog GG 137 ⟨(.pair T_proteanref22_Turn (.slice T_api_Operand)), (.slice T_api_Val), ref22_vals k⟩ :=
  fn_spec (envOk (E := EN k _) tabOk (.cons (ref22_val_spec k) Tryz.func166 f166_ok <| .nil) codesOk mixedOk ggKeep) Tryz.func137 (fun x => (ref22_vals_eq k x).symm)
noncomputable def ref17_At : (k : Nat) → (Ty.D (.pair T_api_Verdict (.pair tI tI))) → Option (Ty.D (.pair T_api_State .bool)) := fun (k : Nat) (x : (T_api_Verdict.pair ((Ty.int IntKind.i64).pair (Ty.int IntKind.i64))).D) => P.cond (P.ile i0 x.2.1) (P.cond (P.ilt x.2.1 (P.len x.1.2.1)) (P.cond (P.ile i0 x.2.2) (P.cond (P.inb x.2.1 (P.len x.1.2.1)) (P.cond (P.ilt x.2.2 (P.len (P.get x.1.2.1 x.2.1 ([], [], [], false, [], [])).1)) (P.cond (P.inb x.2.1 (P.len x.1.2.1)) (P.cond (P.inb x.2.2 (P.len (P.get x.1.2.1 x.2.1 ([], [], [], false, [], [])).1)) (some (P.get (P.get x.1.2.1 x.2.1 ([], [], [], false, [], [])).1 x.2.2 (false, [], []), true)) none) none) (some ((false, [], []), false))) none) (some ((false, [], []), false))) (some ((false, [], []), false))) (some ((false, [], []), false))
theorem ref17_At_eq (k : Nat) (x : (Ty.D (.pair T_api_Verdict (.pair tI tI)))) : evFn (EN k []) 6 Tryz.f163 [] (.pair T_api_Verdict (.pair tI tI)) (.pair T_api_State .bool) x = ref17_At k x := by kernel_rfl
theorem ref17_At_spec (k : Nat) : SpecOk Tryz.prog GG 163 ⟨(.pair T_api_Verdict (.pair tI tI)), (.pair T_api_State .bool), ref17_At k⟩ :=
  fn_spec (envOk (E := EN k _) tabOk (.nil) codesOk mixedOk ggKeep) Tryz.func163 (fun x => (ref17_At_eq k x).symm)
noncomputable def ref21_Value : (k : Nat) → (Ty.D (.pair T_api_Frame (.pair T_api_Val (.slice T_api_Atom)))) → Option (Ty.D .bool) := fun (k : Nat) (x : (T_api_Frame.pair (T_api_Val.pair T_api_Atom.slice)).D) => P.bind (P.iter k (fun (y : Int) => P.cond (P.ilt y (P.len x.2.2)) (P.cond (P.inb y (P.len x.2.2)) (P.cond (P.ieq (P.get x.2.2 y (i0, i0)).1 i0) (P.cond (P.ieq x.2.1.1 (P.get x.2.2 y (i0, i0)).1) (some (Sum.inr (Sum.inr true))) (some (Sum.inl (P.wrap .i64 (P.add y i1))))) (P.cond (P.ieq (P.get x.2.2 y (i0, i0)).1 i1) (P.cond (P.ieq x.2.1.1 (P.get x.2.2 y (i0, i0)).1) (some (Sum.inr (Sum.inr true))) (some (Sum.inl (P.wrap .i64 (P.add y i1))))) (P.cond (P.ieq (P.get x.2.2 y (i0, i0)).1 ((2 : Int))) (P.cond (P.ieq x.2.1.1 (P.get x.2.2 y (i0, i0)).1) (some (Sum.inr (Sum.inr true))) (some (Sum.inl (P.wrap .i64 (P.add y i1))))) (P.cond (P.ieq (P.get x.2.2 y (i0, i0)).1 ((3 : Int))) (P.cond (P.ieq x.2.1.1 ((3 : Int))) (P.cond (P.ieq x.2.1.2 (P.get x.2.2 y (i0, i0)).2) (some (Sum.inr (Sum.inr true))) (some (Sum.inl (P.wrap .i64 (P.add y i1))))) (some (Sum.inl (P.wrap .i64 (P.add y i1))))) (P.cond (P.ieq (P.get x.2.2 y (i0, i0)).1 ((4 : Int))) (P.cond (P.ieq x.2.1.1 ((4 : Int))) (P.cond (P.ile i0 (P.get x.2.2 y (i0, i0)).2) (P.cond (P.ilt (P.get x.2.2 y (i0, i0)).2 (P.len x.1.2.1)) (P.cond (P.inb (P.get x.2.2 y (i0, i0)).2 (P.len x.1.2.1)) (P.cond (P.ile i0 (P.get x.1.2.1 (P.get x.2.2 y (i0, i0)).2 i0)) (P.cond (P.inb (P.get x.2.2 y (i0, i0)).2 (P.len x.1.2.1)) (P.cond (P.ieq (P.get x.1.2.1 (P.get x.2.2 y (i0, i0)).2 i0) x.2.1.2) (some (Sum.inr (Sum.inr true))) (some (Sum.inl (P.wrap .i64 (P.add y i1))))) none) (some (Sum.inl (P.wrap .i64 (P.add y i1))))) none) (some (Sum.inl (P.wrap .i64 (P.add y i1))))) (some (Sum.inl (P.wrap .i64 (P.add y i1))))) (some (Sum.inl (P.wrap .i64 (P.add y i1))))) (P.cond (P.ieq (P.get x.2.2 y (i0, i0)).1 ((5 : Int))) (P.cond (P.ieq x.2.1.1 ((4 : Int))) (P.cond (P.ile i0 (P.get x.2.2 y (i0, i0)).2) (P.cond (P.ilt (P.get x.2.2 y (i0, i0)).2 (P.len x.1.2.2)) (P.cond (P.inb (P.get x.2.2 y (i0, i0)).2 (P.len x.1.2.2)) (P.bind (P.iter k (fun (y_1 : Int) => P.cond (P.ilt y_1 (P.len (P.get x.1.2.2 (P.get x.2.2 y (i0, i0)).2 []))) (P.cond (P.inb y_1 (P.len (P.get x.1.2.2 (P.get x.2.2 y (i0, i0)).2 []))) (P.cond (P.ieq (P.get (P.get x.1.2.2 (P.get x.2.2 y (i0, i0)).2 []) y_1 i0) x.2.1.2) (some (Sum.inr (Sum.inr (Sum.inr (Sum.inr true))))) (some (Sum.inl (P.wrap .i64 (P.add y_1 i1))))) none) (some (Sum.inr (Sum.inl ())))) i0) (P.either (fun (z : PUnit) => some (Sum.inl (P.wrap .i64 (P.add y i1)))) fun (r : Int ⊕ PUnit ⊕ Bool) => some r)) none) (some (Sum.inl (P.wrap .i64 (P.add y i1))))) (some (Sum.inl (P.wrap .i64 (P.add y i1))))) (some (Sum.inl (P.wrap .i64 (P.add y i1))))) (P.cond (P.ieq (P.get x.2.2 y (i0, i0)).1 ((6 : Int))) (some (Sum.inr (Sum.inr true))) (some (Sum.inl (P.wrap .i64 (P.add y i1))))))))))) none) (some (Sum.inr (Sum.inl ())))) i0) (P.either (fun (z : PUnit) => some false) fun (r : Bool) => some r)
theorem ref21_Value_eq (k : Nat) (x : (Ty.D (.pair T_api_Frame (.pair T_api_Val (.slice T_api_Atom))))) : evFn (EN k []) 6 Tryz.f183 [(2, ⟨[.var 7 (.d tI)], [], (some (0, []))⟩), (22, ⟨[.var 10 (.d tI)], [], (some (3, []))⟩)] (.pair T_api_Frame (.pair T_api_Val (.slice T_api_Atom))) .bool x = ref21_Value k x := by kernel_rfl
theorem ref21_Value_spec (k : Nat) : SpecOk Tryz.prog GG 183 ⟨(.pair T_api_Frame (.pair T_api_Val (.slice T_api_Atom))), .bool, ref21_Value k⟩ :=
  fn_spec (envOk (E := EN k _) tabOk (.nil) codesOk mixedOk ggKeep) Tryz.func183 (fun x => (ref21_Value_eq k x).symm)
noncomputable def ref21_own : (k : Nat) → (Ty.D (.pair T_api_Obj .str)) → Option (Ty.D .bool) := fun (k : Nat) (x : (T_api_Obj.pair Ty.str).D) => P.bind (P.iter k (fun (y : Int) => P.cond (P.ilt y (P.len x.1.1)) (P.cond (P.inb y (P.len x.1.1)) (P.cond (P.seq (P.get x.1.1 y (b0, i0, i0)).1 x.2) (some (Sum.inr (Sum.inr true))) (some (Sum.inl (P.wrap .i64 (P.add y i1))))) none) (some (Sum.inr (Sum.inl ())))) i0) (P.either (fun (z : PUnit) => some false) fun (r : Bool) => some r)
theorem ref21_own_eq (k : Nat) (x : (Ty.D (.pair T_api_Obj .str))) : evFn (EN k []) 6 Tryz.f192 [(2, ⟨[.var 5 (.d tI)], [], (some (0, []))⟩)] (.pair T_api_Obj .str) .bool x = ref21_own k x := by kernel_rfl
theorem ref21_own_spec (k : Nat) : SpecOk Tryz.prog GG 192 ⟨(.pair T_api_Obj .str), .bool, ref21_own k⟩ :=
  fn_spec (envOk (E := EN k _) tabOk (.nil) codesOk mixedOk ggKeep) Tryz.func192 (fun x => (ref21_own_eq k x).symm)
noncomputable def ref21_Object : (k : Nat) → (Ty.D (.pair T_api_Frame (.pair (.slice T_api_Obj) (.pair tI T_api_Shape)))) → Option (Ty.D .bool) := fun (k : Nat) (x : (T_api_Frame.pair (T_api_Obj.slice.pair ((Ty.int IntKind.i64).pair T_api_Shape))).D) => P.cond (P.ilt x.2.2.1 i0) (some false) (P.cond (P.ile (P.len x.2.1) x.2.2.1) (some false) (P.bind (P.iter k (fun (y : Int) => P.cond (P.inb x.2.2.1 (P.len x.2.1)) (P.cond (P.ilt y (P.len (P.get x.2.1 x.2.2.1 ([], i0, i0)).1)) (P.cond (P.inb x.2.2.1 (P.len x.2.1)) (P.cond (P.inb y (P.len (P.get x.2.1 x.2.2.1 ([], i0, i0)).1)) (P.bind (ref07_Get k (x.2.2.2, (P.get (P.get x.2.1 x.2.2.1 ([], i0, i0)).1 y (b0, i0, i0)).1)) fun (r : (t14) × Bool) => P.cond (P.not r.2) (some (Sum.inr (Sum.inr false))) (P.cond (P.inb x.2.2.1 (P.len x.2.1)) (P.cond (P.inb y (P.len (P.get x.2.1 x.2.2.1 ([], i0, i0)).1)) (P.bind (ref21_Value k (x.1, (P.get (P.get x.2.1 x.2.2.1 ([], i0, i0)).1 y (b0, i0, i0)).2, r.1.2.2)) fun (r : Bool) => P.cond (P.not r) (some (Sum.inr (Sum.inr false))) (some (Sum.inl (P.wrap .i64 (P.add y i1))))) none) none)) none) none) (some (Sum.inr (Sum.inl ())))) none) i0) (P.either (fun (z : PUnit) => P.bind (P.iter k (fun (y : Int) => P.cond (P.ilt y (P.len x.2.2.2.1)) (P.cond (P.inb y (P.len x.2.2.2.1)) (P.cond (P.get x.2.2.2.1 y (b0, false, [])).2.1 (P.cond (P.inb x.2.2.1 (P.len x.2.1)) (P.cond (P.inb y (P.len x.2.2.2.1)) (P.bind (ref21_own k (P.get x.2.1 x.2.2.1 ([], i0, i0), (P.get x.2.2.2.1 y (b0, false, [])).1)) fun (r : Bool) => P.cond (P.not r) (some (Sum.inr (Sum.inr false))) (some (Sum.inl (P.wrap .i64 (P.add y i1))))) none) none) (some (Sum.inl (P.wrap .i64 (P.add y i1))))) none) (some (Sum.inr (Sum.inl ())))) i0) (P.either (fun (z : PUnit) => P.cond (P.inb x.2.2.1 (P.len x.2.1)) (P.bind (ref21_Value k (x.1, (P.get x.2.1 x.2.2.1 ([], i0, i0)).2, x.2.2.2.2)) fun (r : Bool) => some r) none) fun (r : Bool) => some r)) fun (r : Bool) => some r)))
theorem ref21_Object_eq (k : Nat) (x : (Ty.D (.pair T_api_Frame (.pair (.slice T_api_Obj) (.pair tI T_api_Shape))))) : evFn (EN k [(160, ⟨(.pair T_api_Shape .str), (.pair T_api_Field .bool), ref07_Get k⟩), (183, ⟨(.pair T_api_Frame (.pair T_api_Val (.slice T_api_Atom))), .bool, ref21_Value k⟩), (192, ⟨(.pair T_api_Obj .str), .bool, ref21_own k⟩)]) 6 Tryz.f184 [(4, ⟨[.var 9 (.d tI)], [], (some (0, []))⟩), (10, ⟨[.var 12 (.d tI)], [], (some (2, []))⟩)] (.pair T_api_Frame (.pair (.slice T_api_Obj) (.pair tI T_api_Shape))) .bool x = ref21_Object k x := by kernel_rfl
theorem ref21_Object_spec (k : Nat) : SpecOk Tryz.prog GG 184 ⟨(.pair T_api_Frame (.pair (.slice T_api_Obj) (.pair tI T_api_Shape))), .bool, ref21_Object k⟩ :=
  fn_spec (envOk (E := EN k _) tabOk (.cons (ref07_Get_spec k) Tryz.func160 f160_ok <| .cons (ref21_Value_spec k) Tryz.func183 f183_ok <| .cons (ref21_own_spec k) Tryz.func192 f192_ok <| .nil) codesOk mixedOk ggKeep) Tryz.func184 (fun x => (ref21_Object_eq k x).symm)
noncomputable def ref21_State : (k : Nat) → (Ty.D (.pair T_api_Frame (.pair (.slice T_api_Obj) T_api_State))) → Option (Ty.D .bool) := fun (k : Nat) (x : (T_api_Frame.pair (T_api_Obj.slice.pair T_api_State)).D) => P.cond x.2.2.1 (some false) (P.bind (P.iter k (fun (y : Int) => P.cond (P.ilt y (P.len x.1.1)) (P.cond (P.inb y (P.len x.1.1)) (P.bind (ref21_Var k (x.1, (P.get x.1.1 y (b0, i0, i0)).1)) fun (r : Int × Int) => P.bind (ref08_Var k (x.2.2, (P.get x.1.1 y (b0, i0, i0)).1)) fun (r_1 : List (Int × Int)) => P.bind (ref21_Value k (x.1, r, r_1)) fun (r : Bool) => P.cond (P.not r) (some (Sum.inr (Sum.inr false))) (some (Sum.inl (P.wrap .i64 (P.add y i1))))) none) (some (Sum.inr (Sum.inl ())))) i0) (P.either (fun (z : PUnit) => P.bind (P.iter k (fun (y : Int) => P.cond (P.ilt y (P.len x.2.2.2.1)) (P.cond (P.inb y (P.len x.2.2.2.1)) (P.bind (ref21_Var k (x.1, (P.get x.2.2.2.1 y (b0, [])).1)) fun (r : Int × Int) => P.bind (ref08_Var k (x.2.2, (P.get x.2.2.2.1 y (b0, [])).1)) fun (r_1 : List (Int × Int)) => P.bind (ref21_Value k (x.1, r, r_1)) fun (r : Bool) => P.cond (P.not r) (some (Sum.inr (Sum.inr false))) (some (Sum.inl (P.wrap .i64 (P.add y i1))))) none) (some (Sum.inr (Sum.inl ())))) i0) (P.either (fun (z : PUnit) => P.bind (P.iter k (fun (y : Int) => P.cond (P.ilt y (P.len x.1.2.1)) (P.cond (P.inb y (P.len x.1.2.1)) (P.cond (P.not (P.ieq (P.get x.1.2.1 y i0) ((-1 : Int)))) (P.bind (ref08_Loc k (x.2.2, (4 : Int), y)) fun (r : (t6) × Bool) => P.cond (P.not r.2) (some (Sum.inr (Sum.inr false))) (P.cond (P.inb y (P.len x.1.2.1)) (P.bind (ref21_Object k (x.1, x.2.1, P.get x.1.2.1 y i0, r.1)) fun (r : Bool) => P.cond (P.not r) (some (Sum.inr (Sum.inr false))) (some (Sum.inl (P.wrap .i64 (P.add y i1))))) none)) (some (Sum.inl (P.wrap .i64 (P.add y i1))))) none) (some (Sum.inr (Sum.inl ())))) i0) (P.either (fun (z : PUnit) => P.bind (P.iter k (fun (y : Int) => P.cond (P.ilt y (P.len x.1.2.2)) (P.bind (P.iter k (fun (y_1 : Int) => P.cond (P.inb y (P.len x.1.2.2)) (P.cond (P.ilt y_1 (P.len (P.get x.1.2.2 y []))) (P.bind (ref08_Loc k (x.2.2, (5 : Int), y)) fun (r : (t6) × Bool) => P.cond (P.not r.2) (some (Sum.inr (Sum.inr (Sum.inr (Sum.inr false))))) (P.cond (P.inb y (P.len x.1.2.2)) (P.cond (P.inb y_1 (P.len (P.get x.1.2.2 y []))) (P.bind (ref21_Object k (x.1, x.2.1, P.get (P.get x.1.2.2 y []) y_1 i0, r.1)) fun (r : Bool) => P.cond (P.not r) (some (Sum.inr (Sum.inr (Sum.inr (Sum.inr false))))) (some (Sum.inl (P.wrap .i64 (P.add y_1 i1))))) none) none)) (some (Sum.inr (Sum.inl ())))) none) i0) (P.either (fun (z : PUnit) => some (Sum.inl (P.wrap .i64 (P.add y i1)))) fun (r : Int ⊕ PUnit ⊕ Bool) => some r)) (some (Sum.inr (Sum.inl ())))) i0) (P.either (fun (z : PUnit) => some true) fun (r : Bool) => some r)) fun (r : Bool) => some r)) fun (r : Bool) => some r)) fun (r : Bool) => some r))
theorem ref21_State_eq (k : Nat) (x : (Ty.D (.pair T_api_Frame (.pair (.slice T_api_Obj) T_api_State)))) : evFn (EN k [(13, ⟨(.pair T_api_State .str), (.slice T_api_Atom), ref08_Var k⟩), (130, ⟨(.pair T_api_State T_api_Atom), (.pair T_api_Shape .bool), ref08_Loc k⟩), (141, ⟨(.pair T_api_Frame .str), T_api_Val, ref21_Var k⟩), (183, ⟨(.pair T_api_Frame (.pair T_api_Val (.slice T_api_Atom))), .bool, ref21_Value k⟩), (184, ⟨(.pair T_api_Frame (.pair (.slice T_api_Obj) (.pair tI T_api_Shape))), .bool, ref21_Object k⟩)]) 6 Tryz.f164 [(4, ⟨[.var 7 (.d tI)], [], (some (0, []))⟩), (10, ⟨[.var 9 (.d tI)], [], (some (2, []))⟩), (16, ⟨[.var 11 (.d tI)], [], (some (4, []))⟩), (23, ⟨[.var 14 (.d tI)], [], (some (6, []))⟩), (26, ⟨[.var 15 (.d tI)], [], (some (8, []))⟩)] (.pair T_api_Frame (.pair (.slice T_api_Obj) T_api_State)) .bool x = ref21_State k x := by kernel_rfl
theorem ref21_State_spec (k : Nat) : SpecOk Tryz.prog GG 164 ⟨(.pair T_api_Frame (.pair (.slice T_api_Obj) T_api_State)), .bool, ref21_State k⟩ :=
  fn_spec (envOk (E := EN k _) tabOk (.cons (ref08_Var_spec k) Tryz.func13 f13_ok <| .cons (ref08_Loc_spec k) Tryz.func130 f130_ok <| .cons (ref21_Var_spec k) Tryz.func141 f141_ok <| .cons (ref21_Value_spec k) Tryz.func183 f183_ok <| .cons (ref21_Object_spec k) Tryz.func184 f184_ok <| .nil) codesOk mixedOk ggKeep) Tryz.func164 (fun x => (ref21_State_eq k x).symm)
noncomputable def ref19_Right : (k : Nat) → (Ty.D (.pair (.slice T_api_Obj) T_api_Val)) → Option (Ty.D .bool) := fun (k : Nat) (x : (T_api_Obj.slice.pair T_api_Val).D) => P.cond (P.ieq x.2.1 i0) (some (P.ieq x.2.2 i0)) (P.cond (P.ieq x.2.1 i1) (P.cond (P.ieq x.2.2 i0) (some true) (some (P.ieq x.2.2 i1))) (P.cond (P.ieq x.2.1 ((2 : Int))) (some true) (P.cond (P.ieq x.2.1 ((3 : Int))) (some (P.ile i0 x.2.2)) (P.cond (P.ieq x.2.1 ((4 : Int))) (P.cond (P.ile i0 x.2.2) (some (P.ilt x.2.2 (P.len x.1))) (some false)) (some false)))))
theorem ref19_Right_eq (k : Nat) (x : (Ty.D (.pair (.slice T_api_Obj) T_api_Val))) : evFn (EN k []) 6 Tryz.f169 [] (.pair (.slice T_api_Obj) T_api_Val) .bool x = ref19_Right k x := by kernel_rfl
theorem ref19_Right_spec (k : Nat) : SpecOk Tryz.prog GG 169 ⟨(.pair (.slice T_api_Obj) T_api_Val), .bool, ref19_Right k⟩ :=
  fn_spec (envOk (E := EN k _) tabOk (.nil) codesOk mixedOk ggKeep) Tryz.func169 (fun x => (ref19_Right_eq k x).symm)
noncomputable def ref19_May : (k : Nat) → (Ty.D (.slice T_api_Obj)) → Option (Ty.D .bool) := fun (k : Nat) (x : T_api_Obj.slice.D) => P.bind (P.iter k (fun (y : Int) => P.cond (P.ilt y (P.len x)) (P.cond (P.inb y (P.len x)) (P.bind (P.iter k (fun (y_1 : Int) => P.cond (P.ilt y_1 (P.len (P.get x y ([], i0, i0)).1)) (P.cond (P.inb y_1 (P.len (P.get x y ([], i0, i0)).1)) (P.bind (ref19_Right k (x, (P.get (P.get x y ([], i0, i0)).1 y_1 (b0, i0, i0)).2)) fun (r : Bool) => P.cond (P.not r) (some (Sum.inr (Sum.inr (Sum.inr (Sum.inr false))))) (P.cond (P.ilt i0 y_1) (P.cond (P.inb (P.wrap .i64 (P.sub y_1 i1)) (P.len (P.get x y ([], i0, i0)).1)) (P.cond (P.inb y_1 (P.len (P.get x y ([], i0, i0)).1)) (P.cond (P.not (P.slt (P.get (P.get x y ([], i0, i0)).1 (P.wrap .i64 (P.sub y_1 i1)) (b0, i0, i0)).1 (P.get (P.get x y ([], i0, i0)).1 y_1 (b0, i0, i0)).1)) (some (Sum.inr (Sum.inr (Sum.inr (Sum.inr false))))) (some (Sum.inl (P.wrap .i64 (P.add y_1 i1))))) none) none) (some (Sum.inl (P.wrap .i64 (P.add y_1 i1)))))) none) (some (Sum.inr (Sum.inl ())))) i0) (P.either (fun (z : PUnit) => P.cond (P.not (P.and (P.ieq (P.get x y ([], i0, i0)).2.1 i0) (P.ieq (P.get x y ([], i0, i0)).2.2 i0))) (P.cond (P.not (P.ieq (P.get x y ([], i0, i0)).2.1 ((4 : Int)))) (some (Sum.inr (Sum.inr false))) (P.cond (P.ilt (P.get x y ([], i0, i0)).2.2 i0) (some (Sum.inr (Sum.inr false))) (P.cond (P.ile y (P.get x y ([], i0, i0)).2.2) (some (Sum.inr (Sum.inr false))) (some (Sum.inl (P.wrap .i64 (P.add y i1))))))) (some (Sum.inl (P.wrap .i64 (P.add y i1))))) fun (r : Int ⊕ PUnit ⊕ Bool) => some r)) none) (some (Sum.inr (Sum.inl ())))) i0) (P.either (fun (z : PUnit) => some true) fun (r : Bool) => some r)
theorem ref19_May_eq (k : Nat) (x : (Ty.D (.slice T_api_Obj))) : evFn (EN k [(169, ⟨(.pair (.slice T_api_Obj) T_api_Val), .bool, ref19_Right k⟩)]) 6 Tryz.f168 [(2, ⟨[.var 3 (.d tI)], [], (some (0, []))⟩), (6, ⟨[.var 5 (.d tI)], [], (some (2, []))⟩)] (.slice T_api_Obj) .bool x = ref19_May k x := by kernel_rfl
theorem ref19_May_spec (k : Nat) : SpecOk Tryz.prog GG 168 ⟨(.slice T_api_Obj), .bool, ref19_May k⟩ :=
  fn_spec (envOk (E := EN k _) tabOk (.cons (ref19_Right_spec k) Tryz.func169 f169_ok <| .nil) codesOk mixedOk ggKeep) Tryz.func168 (fun x => (ref19_May_eq k x).symm)
noncomputable def ref19_own : (k : Nat) → (Ty.D (.pair T_api_Obj .str)) → Option (Ty.D (.pair T_api_Val .bool)) := fun (k : Nat) (x : (T_api_Obj.pair Ty.str).D) => P.bind (P.iter k (fun (y : Int) => P.cond (P.ilt y (P.len x.1.1)) (P.cond (P.inb y (P.len x.1.1)) (P.cond (P.seq (P.get x.1.1 y (b0, i0, i0)).1 x.2) (P.cond (P.inb y (P.len x.1.1)) (some (Sum.inr (Sum.inr ((P.get x.1.1 y (b0, i0, i0)).2, true)))) none) (some (Sum.inl (P.wrap .i64 (P.add y i1))))) none) (some (Sum.inr (Sum.inl ())))) i0) (P.either (fun (z : PUnit) => some ((i0, i0), false)) fun (r : (Int × Int) × Bool) => some r)
theorem ref19_own_eq (k : Nat) (x : (Ty.D (.pair T_api_Obj .str))) : evFn (EN k []) 6 Tryz.f170 [(2, ⟨[.var 6 (.d tI)], [4], (some (0, []))⟩)] (.pair T_api_Obj .str) (.pair T_api_Val .bool) x = ref19_own k x := by kernel_rfl
theorem ref19_own_spec (k : Nat) : SpecOk Tryz.prog GG 170 ⟨(.pair T_api_Obj .str), (.pair T_api_Val .bool), ref19_own k⟩ :=
  fn_spec (envOk (E := EN k _) tabOk (.nil) codesOk mixedOk ggKeep) Tryz.func170 (fun x => (ref19_own_eq k x).symm)
noncomputable def ref19_Get : (k : Nat) → (Ty.D (.pair (.slice T_api_Obj) (.pair T_api_Val .str))) → Option (Ty.D (.pair T_api_Val .bool)) := fun (k : Nat) (x : (T_api_Obj.slice.pair (T_api_Val.pair Ty.str)).D) => P.bind (ref19_May k x.1) fun (r : Bool) => P.cond (P.not r) (some ((i0, i0), false)) (P.bind (P.iter k (fun (y : Int × Int) => P.cond (P.ieq y.1 ((4 : Int))) (P.bind (ref19_Right k (x.1, y)) fun (r : Bool) => P.cond r (P.cond (P.inb y.2 (P.len x.1)) (P.bind (ref19_own k (P.get x.1 y.2 ([], i0, i0), x.2.2)) fun (r : (Int × Int) × Bool) => P.cond r.2 (some (Sum.inr (Sum.inr (r.1, true)))) (P.cond (P.inb y.2 (P.len x.1)) (some (Sum.inl (P.get x.1 y.2 ([], i0, i0)).2)) none)) none) (some (Sum.inr (Sum.inl ())))) (some (Sum.inr (Sum.inl ())))) x.2.1) (P.either (fun (z : PUnit) => some ((i0, i0), false)) fun (r : (Int × Int) × Bool) => some r))
theorem ref19_Get_eq (k : Nat) (x : (Ty.D (.pair (.slice T_api_Obj) (.pair T_api_Val .str)))) : evFn (EN k [(168, ⟨(.slice T_api_Obj), .bool, ref19_May k⟩), (169, ⟨(.pair (.slice T_api_Obj) T_api_Val), .bool, ref19_Right k⟩), (170, ⟨(.pair T_api_Obj .str), (.pair T_api_Val .bool), ref19_own k⟩)]) 6 Tryz.f140 [(3, ⟨[.box 4 [] (.d T_api_Fault)], [6], (some (0, []))⟩)] (.pair (.slice T_api_Obj) (.pair T_api_Val .str)) (.pair T_api_Val .bool) x = ref19_Get k x := by kernel_rfl
theorem ref19_Get_spec (k : Nat) : SpecOk Tryz.prog GG 140 ⟨(.pair (.slice T_api_Obj) (.pair T_api_Val .str)), (.pair T_api_Val .bool), ref19_Get k⟩ :=
  fn_spec (envOk (E := EN k _) tabOk (.cons (ref19_May_spec k) Tryz.func168 f168_ok <| .cons (ref19_Right_spec k) Tryz.func169 f169_ok <| .cons (ref19_own_spec k) Tryz.func170 f170_ok <| .nil) codesOk mixedOk ggKeep) Tryz.func140 (fun x => (ref19_Get_eq k x).symm)
noncomputable def ref20_Holds : (k : Nat) → (Ty.D (.pair (.slice T_api_Obj) (.pair (.slice tI) (.pair T_api_Cast T_api_Val)))) → Option (Ty.D .bool) := fun (k : Nat) (x : (T_api_Obj.slice.pair ((Ty.int IntKind.i64).slice.pair (T_api_Cast.pair T_api_Val))).D) => let c0 := (P.cond (P.ieq x.2.2.1.2.2.2.1 ((3 : Int))) (some (P.ieq x.2.2.2.1 ((2 : Int)))) (P.cond (P.ieq x.2.2.1.2.2.2.1 ((4 : Int))) (some (P.ieq x.2.2.2.1 i1)) (P.cond (P.ieq x.2.2.1.2.2.2.1 ((5 : Int))) (P.cond (P.ieq x.2.2.2.1 ((3 : Int))) (P.cond (P.ile i0 x.2.2.2.2) (P.cond (P.ilt x.2.2.2.2 (P.len x.2.1)) (P.cond (P.inb x.2.2.2.2 (P.len x.2.1)) (some (P.ieq (P.get x.2.1 x.2.2.2.2 i0) x.2.2.1.2.2.2.2.2)) none) (some false)) (some false)) (some false)) (some false)))); let c1 := (P.bind (ref19_Get k (x.1, x.2.2.2, x.2.2.1.2.2.2.2.1)) fun (r : (Int × Int) × Bool) => some r.2); let c2 := (P.cond (P.ieq x.2.2.2.1 i0) (some (P.ieq x.2.2.2.2 i0)) (some false)); P.cond (P.ieq x.2.2.2.1 ((4 : Int))) (P.bind (ref19_Right k (x.1, x.2.2.2)) fun (r : Bool) => P.cond (P.ieq x.2.2.1.2.2.2.1 i0) c1 (P.cond (P.ieq x.2.2.1.2.2.2.1 i1) (some r) (P.cond (P.ieq x.2.2.1.2.2.2.1 ((2 : Int))) (P.cond r (some true) c2) c0))) (P.cond (P.ieq x.2.2.1.2.2.2.1 i0) c1 (P.cond (P.ieq x.2.2.1.2.2.2.1 i1) (some false) (P.cond (P.ieq x.2.2.1.2.2.2.1 ((2 : Int))) c2 c0)))
theorem ref20_Holds_eq (k : Nat) (x : (Ty.D (.pair (.slice T_api_Obj) (.pair (.slice tI) (.pair T_api_Cast T_api_Val))))) : evFn (EN k [(140, ⟨(.pair (.slice T_api_Obj) (.pair T_api_Val .str)), (.pair T_api_Val .bool), ref19_Get k⟩), (169, ⟨(.pair (.slice T_api_Obj) T_api_Val), .bool, ref19_Right k⟩)]) 6 Tryz.f185 [] (.pair (.slice T_api_Obj) (.pair (.slice tI) (.pair T_api_Cast T_api_Val))) .bool x = ref20_Holds k x := by kernel_rfl
theorem ref20_Holds_spec (k : Nat) : SpecOk Tryz.prog GG 185 ⟨(.pair (.slice T_api_Obj) (.pair (.slice tI) (.pair T_api_Cast T_api_Val))), .bool, ref20_Holds k⟩ :=
  fn_spec (envOk (E := EN k _) tabOk (.cons (ref19_Get_spec k) Tryz.func140 f140_ok <| .cons (ref19_Right_spec k) Tryz.func169 f169_ok <| .nil) codesOk mixedOk ggKeep) Tryz.func185 (fun x => (ref20_Holds_eq k x).symm)
noncomputable def ref20_First : (k : Nat) → (Ty.D (.pair (.slice T_api_Obj) (.pair (.slice tI) (.pair (.slice T_api_Cast) (.pair T_api_Val (.slice T_api_Val)))))) → Option (Ty.D tI) := fun (k : Nat) (x : (T_api_Obj.slice.pair ((Ty.int IntKind.i64).slice.pair (T_api_Cast.slice.pair (T_api_Val.pair T_api_Val.slice)))).D) => let c0 := (i0, i0, i0, i0, b0, i0); P.bind (P.iter k (fun (y : Int) => P.cond (P.ilt y (P.len x.2.2.1)) (P.cond (P.inb y (P.len x.2.2.1)) (P.cond (P.ieq (P.get x.2.2.1 y c0).2.2.1 ((-1 : Int))) (P.cond (P.inb y (P.len x.2.2.1)) (P.cond (P.ile i0 (P.get x.2.2.1 y c0).2.2.1) (P.cond (P.inb y (P.len x.2.2.1)) (P.cond (P.ilt (P.get x.2.2.1 y c0).2.2.1 (P.len x.2.2.2.2)) (P.cond (P.inb y (P.len x.2.2.1)) (P.cond (P.inb (P.get x.2.2.1 y c0).2.2.1 (P.len x.2.2.2.2)) (P.cond (P.inb y (P.len x.2.2.1)) (P.bind (ref20_Holds k (x.1, x.2.1, P.get x.2.2.1 y c0, P.get x.2.2.2.2 (P.get x.2.2.1 y c0).2.2.1 (i0, i0))) fun (r : Bool) => P.cond (P.not r) (some (Sum.inr (Sum.inr y))) (some (Sum.inl (P.wrap .i64 (P.add y i1))))) none) none) none) (P.cond (P.inb y (P.len x.2.2.1)) (P.bind (ref20_Holds k (x.1, x.2.1, P.get x.2.2.1 y c0, x.2.2.2.1)) fun (r : Bool) => P.cond (P.not r) (some (Sum.inr (Sum.inr y))) (some (Sum.inl (P.wrap .i64 (P.add y i1))))) none)) none) (P.cond (P.inb y (P.len x.2.2.1)) (P.bind (ref20_Holds k (x.1, x.2.1, P.get x.2.2.1 y c0, x.2.2.2.1)) fun (r : Bool) => P.cond (P.not r) (some (Sum.inr (Sum.inr y))) (some (Sum.inl (P.wrap .i64 (P.add y i1))))) none)) none) (P.cond (P.inb y (P.len x.2.2.1)) (P.cond (P.ile i0 (P.get x.2.2.1 y c0).2.2.1) (P.cond (P.inb y (P.len x.2.2.1)) (P.cond (P.ilt (P.get x.2.2.1 y c0).2.2.1 (P.len x.2.2.2.2)) (P.cond (P.inb y (P.len x.2.2.1)) (P.cond (P.inb (P.get x.2.2.1 y c0).2.2.1 (P.len x.2.2.2.2)) (P.cond (P.inb y (P.len x.2.2.1)) (P.bind (ref20_Holds k (x.1, x.2.1, P.get x.2.2.1 y c0, P.get x.2.2.2.2 (P.get x.2.2.1 y c0).2.2.1 (i0, i0))) fun (r : Bool) => P.cond (P.not r) (some (Sum.inr (Sum.inr y))) (some (Sum.inl (P.wrap .i64 (P.add y i1))))) none) none) none) (P.cond (P.inb y (P.len x.2.2.1)) (P.bind (ref20_Holds k (x.1, x.2.1, P.get x.2.2.1 y c0, i0, i0)) fun (r : Bool) => P.cond (P.not r) (some (Sum.inr (Sum.inr y))) (some (Sum.inl (P.wrap .i64 (P.add y i1))))) none)) none) (P.cond (P.inb y (P.len x.2.2.1)) (P.bind (ref20_Holds k (x.1, x.2.1, P.get x.2.2.1 y c0, i0, i0)) fun (r : Bool) => P.cond (P.not r) (some (Sum.inr (Sum.inr y))) (some (Sum.inl (P.wrap .i64 (P.add y i1))))) none)) none)) none) (some (Sum.inr (Sum.inl ())))) i0) (P.either (fun (z : PUnit) => some ((-1 : Int))) fun (r : Int) => some r)
theorem ref20_First_eq (k : Nat) (x : (Ty.D (.pair (.slice T_api_Obj) (.pair (.slice tI) (.pair (.slice T_api_Cast) (.pair T_api_Val (.slice T_api_Val))))))) : evFn (EN k [(185, ⟨(.pair (.slice T_api_Obj) (.pair (.slice tI) (.pair T_api_Cast T_api_Val))), .bool, ref20_Holds k⟩)]) 6 Tryz.f165 [(2, ⟨[.var 11 (.d tI)], [], (some (0, []))⟩)] (.pair (.slice T_api_Obj) (.pair (.slice tI) (.pair (.slice T_api_Cast) (.pair T_api_Val (.slice T_api_Val))))) tI x = ref20_First k x := by kernel_rfl
theorem ref20_First_spec (k : Nat) : SpecOk Tryz.prog GG 165 ⟨(.pair (.slice T_api_Obj) (.pair (.slice tI) (.pair (.slice T_api_Cast) (.pair T_api_Val (.slice T_api_Val))))), tI, ref20_First k⟩ :=
  fn_spec (envOk (E := EN k _) tabOk (.cons (ref20_Holds_spec k) Tryz.func185 f185_ok <| .nil) codesOk mixedOk ggKeep) Tryz.func165 (fun x => (ref20_First_eq k x).symm)
noncomputable def ref22_begin : (k : Nat) → (Ty.D (.pair T_proteanref22_Turn (.pair (.int .i64) (.pair (.int .i64) (.st slfB))))) → Option (Ty.D T_proteanref22_Turn) := fun (k : Nat) (x : (T_proteanref22_Turn.pair ((Ty.int IntKind.i64).pair ((Ty.int IntKind.i64).pair slfB.st))).D) => let c0 := ((x.1.1.1, x.1.1.2.1, x.1.1.2.2.1, x.1.1.2.2.2.1, P.wrap .i64 (P.sub x.1.1.2.2.2.2.1 (1 : Int)), x.1.1.2.2.2.2.2.1, x.1.1.2.2.2.2.2.2.1, x.1.1.2.2.2.2.2.2.2.1, x.1.1.2.2.2.2.2.2.2.2.1, x.1.1.2.2.2.2.2.2.2.2.2.1, P.wrap .i64 (P.add x.1.1.2.2.2.2.2.2.2.2.2.2.1 (1 : Int)), x.1.1.2.2.2.2.2.2.2.2.2.2.2.1, x.1.1.2.2.2.2.2.2.2.2.2.2.2.2.1, P.wrap .i64 (P.add x.1.1.2.2.2.2.2.2.2.2.2.2.2.2.2.1 (1 : Int)), x.1.1.2.2.2.2.2.2.2.2.2.2.2.2.2.2), x.1.2); let c1 := ((x.1.1.1, x.1.1.2.1, x.1.1.2.2.1, x.1.1.2.2.2.1, P.wrap .i64 (P.sub x.1.1.2.2.2.2.1 (1 : Int)), x.1.1.2.2.2.2.2.1, x.1.1.2.2.2.2.2.2.1, x.1.1.2.2.2.2.2.2.2.1, x.1.1.2.2.2.2.2.2.2.2.1, x.1.1.2.2.2.2.2.2.2.2.2.1, P.wrap .i64 (P.add x.1.1.2.2.2.2.2.2.2.2.2.2.1 (1 : Int)), x.1.1.2.2.2.2.2.2.2.2.2.2.2), x.1.2); let c2 := ((0 : Int), (0 : Int), (0 : Int), (0 : Int), (ByteArray.mk #[]), (0 : Int)); P.cond (P.ile x.1.1.2.2.2.2.1 (0 : Int)) (P.bind (ref22_stop k (x.1, (1 : Int), (0 : Int))) fun (r : t0) => some r) (P.cond x.1.1.2.2.2.2.2.2.2.2.2.2.2.1 (P.bind (ref17_At k (x.1.1.2.2.2.2.2.2.2.2.2.2.2.2.1, x.2.1, x.2.2.1)) fun (r : (t4) × Bool) => P.cond (P.not r.2) none (P.bind (ref21_State k (x.1.2.1, x.1.1.2.2.2.2.2.2.1, r.1)) fun (r : Bool) => P.cond (P.not r) none (P.cond (P.ieq x.2.2.2.1 ((2 : Int))) (P.bind (ref21_Var k (x.1.2.1, x.2.2.2.2.2.1)) fun (r : Int × Int) => P.cond (P.ieq x.2.2.2.1 ((3 : Int))) (P.bind (ref21_Var k (x.1.2.1, x.2.2.2.2.1)) fun (r : Int × Int) => P.bind (ref22_vals k (c0, x.2.2.2.2.2.2.2.1)) fun (r_1 : List (Int × Int)) => P.bind (P.iter k (fun (y : Int) => P.cond (P.ilt y (P.len x.1.1.2.1)) (P.cond (P.inb y (P.len x.1.1.2.1)) (P.cond (P.ieq (P.get x.1.1.2.1 y c2).1 x.2.1) (P.cond (P.ieq (P.get x.1.1.2.1 y c2).2.1 x.2.2.1) (P.bind (ref20_First k (x.1.1.2.2.2.2.2.2.1, x.1.1.2.2.1, [P.get x.1.1.2.1 y c2], r, r_1)) fun (r : Int) => P.cond (P.ile (0 : Int) r) (P.bind (ref22_stop k (c0, (2 : Int), P.wrap .i64 (P.add y (1 : Int)))) fun (r : t0) => some (Sum.inr (Sum.inr r))) (some (Sum.inl (P.wrap .i64 (P.add y (1 : Int)))))) (some (Sum.inl (P.wrap .i64 (P.add y (1 : Int)))))) (some (Sum.inl (P.wrap .i64 (P.add y (1 : Int)))))) none) (some (Sum.inr (Sum.inl ())))) (0 : Int)) (P.either (fun (z : PUnit) => some c0) fun (r : t0) => some r)) (P.bind (ref22_vals k (c0, x.2.2.2.2.2.2.2.1)) fun (r_1 : List (Int × Int)) => P.bind (P.iter k (fun (y : Int) => P.cond (P.ilt y (P.len x.1.1.2.1)) (P.cond (P.inb y (P.len x.1.1.2.1)) (P.cond (P.ieq (P.get x.1.1.2.1 y c2).1 x.2.1) (P.cond (P.ieq (P.get x.1.1.2.1 y c2).2.1 x.2.2.1) (P.bind (ref20_First k (x.1.1.2.2.2.2.2.2.1, x.1.1.2.2.1, [P.get x.1.1.2.1 y c2], r, r_1)) fun (r : Int) => P.cond (P.ile (0 : Int) r) (P.bind (ref22_stop k (c0, (2 : Int), P.wrap .i64 (P.add y (1 : Int)))) fun (r : t0) => some (Sum.inr (Sum.inr r))) (some (Sum.inl (P.wrap .i64 (P.add y (1 : Int)))))) (some (Sum.inl (P.wrap .i64 (P.add y (1 : Int)))))) (some (Sum.inl (P.wrap .i64 (P.add y (1 : Int)))))) none) (some (Sum.inr (Sum.inl ())))) (0 : Int)) (P.either (fun (z : PUnit) => some c0) fun (r : t0) => some r))) (P.cond (P.ieq x.2.2.2.1 ((6 : Int))) (P.bind (ref21_Var k (x.1.2.1, x.2.2.2.2.2.1)) fun (r : Int × Int) => P.cond (P.ieq x.2.2.2.1 ((3 : Int))) (P.bind (ref21_Var k (x.1.2.1, x.2.2.2.2.1)) fun (r : Int × Int) => P.bind (ref22_vals k (c0, x.2.2.2.2.2.2.2.1)) fun (r_1 : List (Int × Int)) => P.bind (P.iter k (fun (y : Int) => P.cond (P.ilt y (P.len x.1.1.2.1)) (P.cond (P.inb y (P.len x.1.1.2.1)) (P.cond (P.ieq (P.get x.1.1.2.1 y c2).1 x.2.1) (P.cond (P.ieq (P.get x.1.1.2.1 y c2).2.1 x.2.2.1) (P.bind (ref20_First k (x.1.1.2.2.2.2.2.2.1, x.1.1.2.2.1, [P.get x.1.1.2.1 y c2], r, r_1)) fun (r : Int) => P.cond (P.ile (0 : Int) r) (P.bind (ref22_stop k (c0, (2 : Int), P.wrap .i64 (P.add y (1 : Int)))) fun (r : t0) => some (Sum.inr (Sum.inr r))) (some (Sum.inl (P.wrap .i64 (P.add y (1 : Int)))))) (some (Sum.inl (P.wrap .i64 (P.add y (1 : Int)))))) (some (Sum.inl (P.wrap .i64 (P.add y (1 : Int)))))) none) (some (Sum.inr (Sum.inl ())))) (0 : Int)) (P.either (fun (z : PUnit) => some c0) fun (r : t0) => some r)) (P.bind (ref22_vals k (c0, x.2.2.2.2.2.2.2.1)) fun (r_1 : List (Int × Int)) => P.bind (P.iter k (fun (y : Int) => P.cond (P.ilt y (P.len x.1.1.2.1)) (P.cond (P.inb y (P.len x.1.1.2.1)) (P.cond (P.ieq (P.get x.1.1.2.1 y c2).1 x.2.1) (P.cond (P.ieq (P.get x.1.1.2.1 y c2).2.1 x.2.2.1) (P.bind (ref20_First k (x.1.1.2.2.2.2.2.2.1, x.1.1.2.2.1, [P.get x.1.1.2.1 y c2], r, r_1)) fun (r : Int) => P.cond (P.ile (0 : Int) r) (P.bind (ref22_stop k (c0, (2 : Int), P.wrap .i64 (P.add y (1 : Int)))) fun (r : t0) => some (Sum.inr (Sum.inr r))) (some (Sum.inl (P.wrap .i64 (P.add y (1 : Int)))))) (some (Sum.inl (P.wrap .i64 (P.add y (1 : Int)))))) (some (Sum.inl (P.wrap .i64 (P.add y (1 : Int)))))) none) (some (Sum.inr (Sum.inl ())))) (0 : Int)) (P.either (fun (z : PUnit) => some c0) fun (r : t0) => some r))) (P.cond (P.ieq x.2.2.2.1 ((3 : Int))) (P.bind (ref21_Var k (x.1.2.1, x.2.2.2.2.1)) fun (r : Int × Int) => P.bind (ref22_vals k (c0, x.2.2.2.2.2.2.2.1)) fun (r_1 : List (Int × Int)) => P.bind (P.iter k (fun (y : Int) => P.cond (P.ilt y (P.len x.1.1.2.1)) (P.cond (P.inb y (P.len x.1.1.2.1)) (P.cond (P.ieq (P.get x.1.1.2.1 y c2).1 x.2.1) (P.cond (P.ieq (P.get x.1.1.2.1 y c2).2.1 x.2.2.1) (P.bind (ref20_First k (x.1.1.2.2.2.2.2.2.1, x.1.1.2.2.1, [P.get x.1.1.2.1 y c2], r, r_1)) fun (r : Int) => P.cond (P.ile (0 : Int) r) (P.bind (ref22_stop k (c0, (2 : Int), P.wrap .i64 (P.add y (1 : Int)))) fun (r : t0) => some (Sum.inr (Sum.inr r))) (some (Sum.inl (P.wrap .i64 (P.add y (1 : Int)))))) (some (Sum.inl (P.wrap .i64 (P.add y (1 : Int)))))) (some (Sum.inl (P.wrap .i64 (P.add y (1 : Int)))))) none) (some (Sum.inr (Sum.inl ())))) (0 : Int)) (P.either (fun (z : PUnit) => some c0) fun (r : t0) => some r)) (P.bind (ref22_vals k (c0, x.2.2.2.2.2.2.2.1)) fun (r : List (Int × Int)) => P.bind (P.iter k (fun (y : Int) => P.cond (P.ilt y (P.len x.1.1.2.1)) (P.cond (P.inb y (P.len x.1.1.2.1)) (P.cond (P.ieq (P.get x.1.1.2.1 y c2).1 x.2.1) (P.cond (P.ieq (P.get x.1.1.2.1 y c2).2.1 x.2.2.1) (P.bind (ref20_First k (x.1.1.2.2.2.2.2.2.1, x.1.1.2.2.1, [P.get x.1.1.2.1 y c2], ((0 : Int), (0 : Int)), r)) fun (r : Int) => P.cond (P.ile (0 : Int) r) (P.bind (ref22_stop k (c0, (2 : Int), P.wrap .i64 (P.add y (1 : Int)))) fun (r : t0) => some (Sum.inr (Sum.inr r))) (some (Sum.inl (P.wrap .i64 (P.add y (1 : Int)))))) (some (Sum.inl (P.wrap .i64 (P.add y (1 : Int)))))) (some (Sum.inl (P.wrap .i64 (P.add y (1 : Int)))))) none) (some (Sum.inr (Sum.inl ())))) (0 : Int)) (P.either (fun (z : PUnit) => some c0) fun (r : t0) => some r))))))) (P.cond (P.ieq x.2.2.2.1 ((2 : Int))) (P.bind (ref21_Var k (x.1.2.1, x.2.2.2.2.2.1)) fun (r : Int × Int) => P.cond (P.ieq x.2.2.2.1 ((3 : Int))) (P.bind (ref21_Var k (x.1.2.1, x.2.2.2.2.1)) fun (r : Int × Int) => P.bind (ref22_vals k (c1, x.2.2.2.2.2.2.2.1)) fun (r_1 : List (Int × Int)) => P.bind (P.iter k (fun (y : Int) => P.cond (P.ilt y (P.len x.1.1.2.1)) (P.cond (P.inb y (P.len x.1.1.2.1)) (P.cond (P.ieq (P.get x.1.1.2.1 y c2).1 x.2.1) (P.cond (P.ieq (P.get x.1.1.2.1 y c2).2.1 x.2.2.1) (P.bind (ref20_First k (x.1.1.2.2.2.2.2.2.1, x.1.1.2.2.1, [P.get x.1.1.2.1 y c2], r, r_1)) fun (r : Int) => P.cond (P.ile (0 : Int) r) (P.bind (ref22_stop k (c1, (2 : Int), P.wrap .i64 (P.add y (1 : Int)))) fun (r : t0) => some (Sum.inr (Sum.inr r))) (some (Sum.inl (P.wrap .i64 (P.add y (1 : Int)))))) (some (Sum.inl (P.wrap .i64 (P.add y (1 : Int)))))) (some (Sum.inl (P.wrap .i64 (P.add y (1 : Int)))))) none) (some (Sum.inr (Sum.inl ())))) (0 : Int)) (P.either (fun (z : PUnit) => some c1) fun (r : t0) => some r)) (P.bind (ref22_vals k (c1, x.2.2.2.2.2.2.2.1)) fun (r_1 : List (Int × Int)) => P.bind (P.iter k (fun (y : Int) => P.cond (P.ilt y (P.len x.1.1.2.1)) (P.cond (P.inb y (P.len x.1.1.2.1)) (P.cond (P.ieq (P.get x.1.1.2.1 y c2).1 x.2.1) (P.cond (P.ieq (P.get x.1.1.2.1 y c2).2.1 x.2.2.1) (P.bind (ref20_First k (x.1.1.2.2.2.2.2.2.1, x.1.1.2.2.1, [P.get x.1.1.2.1 y c2], r, r_1)) fun (r : Int) => P.cond (P.ile (0 : Int) r) (P.bind (ref22_stop k (c1, (2 : Int), P.wrap .i64 (P.add y (1 : Int)))) fun (r : t0) => some (Sum.inr (Sum.inr r))) (some (Sum.inl (P.wrap .i64 (P.add y (1 : Int)))))) (some (Sum.inl (P.wrap .i64 (P.add y (1 : Int)))))) (some (Sum.inl (P.wrap .i64 (P.add y (1 : Int)))))) none) (some (Sum.inr (Sum.inl ())))) (0 : Int)) (P.either (fun (z : PUnit) => some c1) fun (r : t0) => some r))) (P.cond (P.ieq x.2.2.2.1 ((6 : Int))) (P.bind (ref21_Var k (x.1.2.1, x.2.2.2.2.2.1)) fun (r : Int × Int) => P.cond (P.ieq x.2.2.2.1 ((3 : Int))) (P.bind (ref21_Var k (x.1.2.1, x.2.2.2.2.1)) fun (r : Int × Int) => P.bind (ref22_vals k (c1, x.2.2.2.2.2.2.2.1)) fun (r_1 : List (Int × Int)) => P.bind (P.iter k (fun (y : Int) => P.cond (P.ilt y (P.len x.1.1.2.1)) (P.cond (P.inb y (P.len x.1.1.2.1)) (P.cond (P.ieq (P.get x.1.1.2.1 y c2).1 x.2.1) (P.cond (P.ieq (P.get x.1.1.2.1 y c2).2.1 x.2.2.1) (P.bind (ref20_First k (x.1.1.2.2.2.2.2.2.1, x.1.1.2.2.1, [P.get x.1.1.2.1 y c2], r, r_1)) fun (r : Int) => P.cond (P.ile (0 : Int) r) (P.bind (ref22_stop k (c1, (2 : Int), P.wrap .i64 (P.add y (1 : Int)))) fun (r : t0) => some (Sum.inr (Sum.inr r))) (some (Sum.inl (P.wrap .i64 (P.add y (1 : Int)))))) (some (Sum.inl (P.wrap .i64 (P.add y (1 : Int)))))) (some (Sum.inl (P.wrap .i64 (P.add y (1 : Int)))))) none) (some (Sum.inr (Sum.inl ())))) (0 : Int)) (P.either (fun (z : PUnit) => some c1) fun (r : t0) => some r)) (P.bind (ref22_vals k (c1, x.2.2.2.2.2.2.2.1)) fun (r_1 : List (Int × Int)) => P.bind (P.iter k (fun (y : Int) => P.cond (P.ilt y (P.len x.1.1.2.1)) (P.cond (P.inb y (P.len x.1.1.2.1)) (P.cond (P.ieq (P.get x.1.1.2.1 y c2).1 x.2.1) (P.cond (P.ieq (P.get x.1.1.2.1 y c2).2.1 x.2.2.1) (P.bind (ref20_First k (x.1.1.2.2.2.2.2.2.1, x.1.1.2.2.1, [P.get x.1.1.2.1 y c2], r, r_1)) fun (r : Int) => P.cond (P.ile (0 : Int) r) (P.bind (ref22_stop k (c1, (2 : Int), P.wrap .i64 (P.add y (1 : Int)))) fun (r : t0) => some (Sum.inr (Sum.inr r))) (some (Sum.inl (P.wrap .i64 (P.add y (1 : Int)))))) (some (Sum.inl (P.wrap .i64 (P.add y (1 : Int)))))) (some (Sum.inl (P.wrap .i64 (P.add y (1 : Int)))))) none) (some (Sum.inr (Sum.inl ())))) (0 : Int)) (P.either (fun (z : PUnit) => some c1) fun (r : t0) => some r))) (P.cond (P.ieq x.2.2.2.1 ((3 : Int))) (P.bind (ref21_Var k (x.1.2.1, x.2.2.2.2.1)) fun (r : Int × Int) => P.bind (ref22_vals k (c1, x.2.2.2.2.2.2.2.1)) fun (r_1 : List (Int × Int)) => P.bind (P.iter k (fun (y : Int) => P.cond (P.ilt y (P.len x.1.1.2.1)) (P.cond (P.inb y (P.len x.1.1.2.1)) (P.cond (P.ieq (P.get x.1.1.2.1 y c2).1 x.2.1) (P.cond (P.ieq (P.get x.1.1.2.1 y c2).2.1 x.2.2.1) (P.bind (ref20_First k (x.1.1.2.2.2.2.2.2.1, x.1.1.2.2.1, [P.get x.1.1.2.1 y c2], r, r_1)) fun (r : Int) => P.cond (P.ile (0 : Int) r) (P.bind (ref22_stop k (c1, (2 : Int), P.wrap .i64 (P.add y (1 : Int)))) fun (r : t0) => some (Sum.inr (Sum.inr r))) (some (Sum.inl (P.wrap .i64 (P.add y (1 : Int)))))) (some (Sum.inl (P.wrap .i64 (P.add y (1 : Int)))))) (some (Sum.inl (P.wrap .i64 (P.add y (1 : Int)))))) none) (some (Sum.inr (Sum.inl ())))) (0 : Int)) (P.either (fun (z : PUnit) => some c1) fun (r : t0) => some r)) (P.bind (ref22_vals k (c1, x.2.2.2.2.2.2.2.1)) fun (r : List (Int × Int)) => P.bind (P.iter k (fun (y : Int) => P.cond (P.ilt y (P.len x.1.1.2.1)) (P.cond (P.inb y (P.len x.1.1.2.1)) (P.cond (P.ieq (P.get x.1.1.2.1 y c2).1 x.2.1) (P.cond (P.ieq (P.get x.1.1.2.1 y c2).2.1 x.2.2.1) (P.bind (ref20_First k (x.1.1.2.2.2.2.2.2.1, x.1.1.2.2.1, [P.get x.1.1.2.1 y c2], ((0 : Int), (0 : Int)), r)) fun (r : Int) => P.cond (P.ile (0 : Int) r) (P.bind (ref22_stop k (c1, (2 : Int), P.wrap .i64 (P.add y (1 : Int)))) fun (r : t0) => some (Sum.inr (Sum.inr r))) (some (Sum.inl (P.wrap .i64 (P.add y (1 : Int)))))) (some (Sum.inl (P.wrap .i64 (P.add y (1 : Int)))))) (some (Sum.inl (P.wrap .i64 (P.add y (1 : Int)))))) none) (some (Sum.inr (Sum.inl ())))) (0 : Int)) (P.either (fun (z : PUnit) => some c1) fun (r : t0) => some r))))))
theorem ref22_begin_eq (k : Nat) (x : (Ty.D (.pair T_proteanref22_Turn (.pair tI (.pair tI (.st slfB)))))) : evFn (EN k [(136, ⟨(.pair T_proteanref22_Turn (.pair tI tI)), T_proteanref22_Turn, ref22_stop k⟩), (137, ⟨(.pair T_proteanref22_Turn (.slice T_api_Operand)), (.slice T_api_Val), ref22_vals k⟩), (141, ⟨(.pair T_api_Frame .str), T_api_Val, ref21_Var k⟩), (163, ⟨(.pair T_api_Verdict (.pair tI tI)), (.pair T_api_State .bool), ref17_At k⟩), (164, ⟨(.pair T_api_Frame (.pair (.slice T_api_Obj) T_api_State)), .bool, ref21_State k⟩), (165, ⟨(.pair (.slice T_api_Obj) (.pair (.slice tI) (.pair (.slice T_api_Cast) (.pair T_api_Val (.slice T_api_Val))))), tI, ref20_First k⟩)]) 6 Tryz.f135 [(17, ⟨[.var 13 (.d tI)], [8], (some (0, []))⟩)] (.pair T_proteanref22_Turn (.pair tI (.pair tI (.st slfB)))) T_proteanref22_Turn x = ref22_begin k x := by kernel_rfl
theorem ref22_begin_spec (k : Nat) : SpecOk Tryz.prog GG 135 ⟨(.pair T_proteanref22_Turn (.pair tI (.pair tI (.st slfB)))), T_proteanref22_Turn, ref22_begin k⟩ :=
  fn_spec (envOk (E := EN k _) tabOk (.cons (ref22_stop_spec k) Tryz.func136 f136_ok <| .cons (ref22_vals_spec k) Tryz.func137 f137_ok <| .cons (ref21_Var_spec k) Tryz.func141 f141_ok <| .cons (ref17_At_spec k) Tryz.func163 f163_ok <| .cons (ref21_State_spec k) Tryz.func164 f164_ok <| .cons (ref20_First_spec k) Tryz.func165 f165_ok <| .nil) codesOk mixedOk ggKeep) Tryz.func135 (fun x => (ref22_begin_eq k x).symm)
noncomputable def ref22_set : (k : Nat) → (Ty.D (.pair T_proteanref22_Turn (.pair .str T_api_Val))) → Option (Ty.D T_proteanref22_Turn) := fun (k : Nat) (x : (T_proteanref22_Turn.pair (Ty.str.pair T_api_Val)).D) => P.bind (ref21_Set k (x.1.2.1, x.2.1, x.2.2)) fun (r : t8) => some (x.1.1, r, x.1.2.2)
theorem ref22_set_eq (k : Nat) (x : (Ty.D (.pair T_proteanref22_Turn (.pair .str T_api_Val)))) : evFn (EN k [(91, ⟨(.pair T_api_Frame (.pair .str T_api_Val)), T_api_Frame, ref21_Set k⟩)]) 6 Tryz.f138 [] (.pair T_proteanref22_Turn (.pair .str T_api_Val)) T_proteanref22_Turn x = ref22_set k x := by kernel_rfl
theorem ref22_set_spec (k : Nat) : SpecOk Tryz.prog GG 138 ⟨(.pair T_proteanref22_Turn (.pair .str T_api_Val)), T_proteanref22_Turn, ref22_set k⟩ :=
  fn_spec (envOk (E := EN k _) tabOk (.cons (ref21_Set_spec k) Tryz.func91 f91_ok <| .nil) codesOk mixedOk ggKeep) Tryz.func138 (fun x => (ref22_set_eq k x).symm)
noncomputable def ref22_truth : (k : Nat) → (Ty.D .bool) → Option (Ty.D T_api_Val) := fun (k : Nat) (x : Ty.bool.D) => P.cond x (some ((1 : Int), (1 : Int))) (some ((1 : Int), (0 : Int)))
theorem ref22_truth_eq (k : Nat) (x : (Ty.D .bool)) : evFn (EN k []) 6 Tryz.f167 [] .bool T_api_Val x = ref22_truth k x := by kernel_rfl
theorem ref22_truth_spec (k : Nat) : SpecOk Tryz.prog GG 167 ⟨.bool, T_api_Val, ref22_truth k⟩ :=
  fn_spec (envOk (E := EN k _) tabOk (.nil) codesOk mixedOk ggKeep) Tryz.func167 (fun x => (ref22_truth_eq k x).symm)
noncomputable def ref22_arith : (k : Nat) → (Ty.D (.pair T_proteanref22_Turn (.pair (.st slfB) (.pair (.slice T_api_Val) T_proteanref22_Turn)))) → Option (Ty.D T_proteanref22_Turn) := fun (k : Nat) (x : (T_proteanref22_Turn.pair (slfB.st.pair (T_api_Val.slice.pair T_proteanref22_Turn))).D) => let c0 := (P.bind (ref22_set k (x.1, x.2.1.2.1, (2 : Int), P.wrap .i64 (P.mul (P.get x.2.2.1 (0 : Int) ((0 : Int), (0 : Int))).2 (P.get x.2.2.1 (1 : Int) ((0 : Int), (0 : Int))).2))) fun (r : t0) => some r); P.cond (P.seq x.2.1.2.2.2.1 (ByteArray.mk #[61])) (P.cond (P.inb (0 : Int) (P.len x.2.2.1)) (P.cond (P.inb (1 : Int) (P.len x.2.2.1)) (P.bind (ref22_truth k (P.and (P.ieq (P.get x.2.2.1 (0 : Int) ((0 : Int), (0 : Int))).1 (P.get x.2.2.1 (1 : Int) ((0 : Int), (0 : Int))).1) (P.ieq (P.get x.2.2.1 (0 : Int) ((0 : Int), (0 : Int))).2 (P.get x.2.2.1 (1 : Int) ((0 : Int), (0 : Int))).2))) fun (r : Int × Int) => P.bind (ref22_set k (x.1, x.2.1.2.1, r)) fun (r : t0) => some r) none) none) (P.cond (P.inb (0 : Int) (P.len x.2.2.1)) (P.cond (P.not (P.ieq (P.get x.2.2.1 (0 : Int) ((0 : Int), (0 : Int))).1 ((2 : Int)))) (some x.2.2.2) (P.cond (P.inb (1 : Int) (P.len x.2.2.1)) (P.cond (P.not (P.ieq (P.get x.2.2.1 (1 : Int) ((0 : Int), (0 : Int))).1 ((2 : Int)))) (some x.2.2.2) (P.cond (P.inb (0 : Int) (P.len x.2.2.1)) (P.cond (P.inb (1 : Int) (P.len x.2.2.1)) (P.cond (P.seq x.2.1.2.2.2.1 (ByteArray.mk #[60])) (P.bind (ref22_truth k (P.ilt (P.get x.2.2.1 (0 : Int) ((0 : Int), (0 : Int))).2 (P.get x.2.2.1 (1 : Int) ((0 : Int), (0 : Int))).2)) fun (r : Int × Int) => P.bind (ref22_set k (x.1, x.2.1.2.1, r)) fun (r : t0) => some r) (P.cond (P.seq x.2.1.2.2.2.1 (ByteArray.mk #[45])) (P.cond (P.seq x.2.1.2.2.2.1 (ByteArray.mk #[42])) c0 (P.bind (ref22_set k (x.1, x.2.1.2.1, (2 : Int), P.wrap .i64 (P.sub (P.get x.2.2.1 (0 : Int) ((0 : Int), (0 : Int))).2 (P.get x.2.2.1 (1 : Int) ((0 : Int), (0 : Int))).2))) fun (r : t0) => some r)) (P.cond (P.seq x.2.1.2.2.2.1 (ByteArray.mk #[42])) c0 (P.bind (ref22_set k (x.1, x.2.1.2.1, (2 : Int), P.wrap .i64 (P.add (P.get x.2.2.1 (0 : Int) ((0 : Int), (0 : Int))).2 (P.get x.2.2.1 (1 : Int) ((0 : Int), (0 : Int))).2))) fun (r : t0) => some r)))) none) none)) none)) none)
theorem ref22_arith_eq (k : Nat) (x : (Ty.D (.pair T_proteanref22_Turn (.pair (.st slfB) (.pair (.slice T_api_Val) T_proteanref22_Turn))))) : evFn (EN k [(138, ⟨(.pair T_proteanref22_Turn (.pair .str T_api_Val)), T_proteanref22_Turn, ref22_set k⟩), (167, ⟨.bool, T_api_Val, ref22_truth k⟩)]) 6 Tryz.f139 [] (.pair T_proteanref22_Turn (.pair (.st slfB) (.pair (.slice T_api_Val) T_proteanref22_Turn))) T_proteanref22_Turn x = ref22_arith k x := by kernel_rfl
theorem ref22_arith_spec (k : Nat) : SpecOk Tryz.prog GG 139 ⟨(.pair T_proteanref22_Turn (.pair (.st slfB) (.pair (.slice T_api_Val) T_proteanref22_Turn))), T_proteanref22_Turn, ref22_arith k⟩ :=
  fn_spec (envOk (E := EN k _) tabOk (.cons (ref22_set_spec k) Tryz.func138 f138_ok <| .cons (ref22_truth_spec k) Tryz.func167 f167_ok <| .nil) codesOk mixedOk ggKeep) Tryz.func139 (fun x => (ref22_arith_eq k x).symm)
noncomputable def ref19_Set : (k : Nat) → (Ty.D (.pair (.slice T_api_Obj) (.pair T_api_Val (.pair .str T_api_Val)))) → Option (Ty.D (.pair (.slice T_api_Obj) .bool)) := fun (k : Nat) (x : (T_api_Obj.slice.pair (T_api_Val.pair (Ty.str.pair T_api_Val))).D) => P.bind (ref19_May k x.1) fun (r : Bool) => P.cond (P.not r) (some ([], false)) (P.cond (P.not (P.ieq x.2.1.1 ((4 : Int)))) (some ([], false)) (P.bind (ref19_Right k (x.1, x.2.1)) fun (r : Bool) => P.cond (P.not r) (some ([], false)) (P.bind (ref19_Right k (x.1, x.2.2.2)) fun (r : Bool) => P.cond (P.not r) (some ([], false)) (P.cond (P.room (P.add (P.len (P.nil (t10))) (P.len x.1)) 40) (P.cond (P.inb x.2.1.2 (P.len x.1)) (P.bind (ref19_With k ((P.get x.1 x.2.1.2 ([], i0, i0)).1, x.2.2.1, x.2.2.2)) fun (r : List (ByteArray × Int × Int)) => P.cond (P.inb x.2.1.2 (P.len (P.app [] x.1))) (some (P.set (P.app [] x.1) x.2.1.2 (r, (P.get (P.app [] x.1) x.2.1.2 ([], i0, i0)).2), true)) none) none) none))))
theorem ref19_Set_eq (k : Nat) (x : (Ty.D (.pair (.slice T_api_Obj) (.pair T_api_Val (.pair .str T_api_Val))))) : evFn (EN k [(111, ⟨(.pair (.slice T_api_Prop) (.pair .str T_api_Val)), (.slice T_api_Prop), ref19_With k⟩), (168, ⟨(.slice T_api_Obj), .bool, ref19_May k⟩), (169, ⟨(.pair (.slice T_api_Obj) T_api_Val), .bool, ref19_Right k⟩)]) 6 Tryz.f142 [] (.pair (.slice T_api_Obj) (.pair T_api_Val (.pair .str T_api_Val))) (.pair (.slice T_api_Obj) .bool) x = ref19_Set k x := by kernel_rfl
theorem ref19_Set_spec (k : Nat) : SpecOk Tryz.prog GG 142 ⟨(.pair (.slice T_api_Obj) (.pair T_api_Val (.pair .str T_api_Val))), (.pair (.slice T_api_Obj) .bool), ref19_Set k⟩ :=
  fn_spec (envOk (E := EN k _) tabOk (.cons (ref19_With_spec k) Tryz.func111 f111_ok <| .cons (ref19_May_spec k) Tryz.func168 f168_ok <| .cons (ref19_Right_spec k) Tryz.func169 f169_ok <| .nil) codesOk mixedOk ggKeep) Tryz.func142 (fun x => (ref19_Set_eq k x).symm)
noncomputable def ref19_New : (k : Nat) → (Ty.D (.pair (.slice T_api_Obj) T_api_Obj)) → Option (Ty.D (.pair (.slice T_api_Obj) (.pair T_api_Val .bool))) := fun (k : Nat) (x : (T_api_Obj.slice.pair T_api_Obj).D) => P.cond (P.room (P.add (P.len (P.nil (t10))) (P.len x.1)) 40) (P.cond (P.room (P.add (P.len (P.app [] x.1)) (P.len [x.2])) 40) (P.bind (ref19_May k (P.app (P.app [] x.1) [x.2])) fun (r : Bool) => P.cond (P.not r) (some ([], (i0, i0), false)) (some (P.app (P.app [] x.1) [x.2], ((4 : Int), P.len x.1), true))) none) none
theorem ref19_New_eq (k : Nat) (x : (Ty.D (.pair (.slice T_api_Obj) T_api_Obj))) : evFn (EN k [(168, ⟨(.slice T_api_Obj), .bool, ref19_May k⟩)]) 6 Tryz.f171 [] (.pair (.slice T_api_Obj) T_api_Obj) (.pair (.slice T_api_Obj) (.pair T_api_Val .bool)) x = ref19_New k x := by kernel_rfl
theorem ref19_New_spec (k : Nat) : SpecOk Tryz.prog GG 171 ⟨(.pair (.slice T_api_Obj) T_api_Obj), (.pair (.slice T_api_Obj) (.pair T_api_Val .bool)), ref19_New k⟩ :=
  fn_spec (envOk (E := EN k _) tabOk (.cons (ref19_May_spec k) Tryz.func168 f168_ok <| .nil) codesOk mixedOk ggKeep) Tryz.func171 (fun x => (ref19_New_eq k x).symm)
noncomputable def ref04_Site : (k : Nat) → (Ty.D (.pair (.slice .slf) tI)) → Option (Ty.D (.pair tI .bool)) := fun (k : Nat) (x : (Ty.slf.slice.pair (Ty.int IntKind.i64)).D) => P.bind (ref04_List k x.1) fun (r : List Tree) => P.cond (P.ilt x.2 i0) (some (i0, false)) (P.cond (P.ile (P.len r) x.2) (some (i0, false)) (P.cond (P.inb x.2 (P.len r)) (P.cond (P.not (P.ieq (P.tun (P.get r x.2 (P.tof (i0, b0, b0, b0, [], [], [], [])))).1 ((4 : Int)))) (some (i0, false)) (P.bind (P.iter k (fun (y : Int × Int) => P.cond (P.ilt y.2 x.2) (P.cond (P.inb y.2 (P.len r)) (P.cond (P.ieq (P.tun (P.get r y.2 (P.tof (i0, b0, b0, b0, [], [], [], [])))).1 ((4 : Int))) (some (Sum.inl (P.wrap .i64 (P.add y.1 i1), P.wrap .i64 (P.add y.2 i1)))) (some (Sum.inl (y.1, P.wrap .i64 (P.add y.2 i1))))) none) (some (Sum.inr (Sum.inl y.1)))) (i0, i0)) (P.either (fun (z : Int) => some (z, true)) fun (r : Int × Bool) => some r))) none))
theorem ref04_Site_eq (k : Nat) (x : (Ty.D (.pair (.slice .slf) tI))) : evFn (EN k [(47, ⟨(.slice .slf), (.slice .slf), ref04_List k⟩)]) 6 Tryz.f172 [(6, ⟨[.var 7 (.d tI), .var 8 (.d tI)], [], (some (0, [.var 7 (.d tI)]))⟩)] (.pair (.slice .slf) tI) (.pair tI .bool) x = ref04_Site k x := by kernel_rfl
theorem ref04_Site_spec (k : Nat) : SpecOk Tryz.prog GG 172 ⟨(.pair (.slice .slf) tI), (.pair tI .bool), ref04_Site k⟩ :=
  fn_spec (envOk (E := EN k _) tabOk (.cons (ref04_List_spec k) Tryz.func47 f47_ok <| .nil) codesOk mixedOk ggKeep) Tryz.func172 (fun x => (ref04_Site_eq k x).symm)
noncomputable def ref21_Fresh : (k : Nat) → (Ty.D (.pair T_api_Frame (.pair tI tI))) → Option (Ty.D T_api_Frame) := fun (k : Nat) (x : (T_api_Frame.pair ((Ty.int IntKind.i64).pair (Ty.int IntKind.i64))).D) => P.cond (P.ilt x.2.1 i0) (some x.1) (P.cond (P.ilt ((2000 : Int)) x.2.1) (some x.1) (P.bind (P.iter k (fun (y : Int × t8) => P.cond (P.ilt y.1 (P.len x.1.2.1)) (P.cond (P.ilt y.1 (P.len x.1.2.1)) (P.cond (P.inb y.1 (P.len x.1.2.1)) (P.cond (P.ieq y.1 x.2.1) (P.cond (P.room (P.add (P.len y.2.2.1) (P.len [x.2.2])) 8) (some (Sum.inl (P.wrap .i64 (P.add y.1 i1), y.2.1, P.app y.2.2.1 [x.2.2], y.2.2.2))) none) (P.cond (P.room (P.add (P.len y.2.2.1) (P.len [P.get x.1.2.1 y.1 i0])) 8) (some (Sum.inl (P.wrap .i64 (P.add y.1 i1), y.2.1, P.app y.2.2.1 [P.get x.1.2.1 y.1 i0], y.2.2.2))) none)) none) (P.cond (P.ieq y.1 x.2.1) (P.cond (P.room (P.add (P.len y.2.2.1) (P.len [x.2.2])) 8) (some (Sum.inl (P.wrap .i64 (P.add y.1 i1), y.2.1, P.app y.2.2.1 [x.2.2], y.2.2.2))) none) (P.cond (P.room (P.add (P.len y.2.2.1) (P.len [(-1 : Int)])) 8) (some (Sum.inl (P.wrap .i64 (P.add y.1 i1), y.2.1, P.app y.2.2.1 [(-1 : Int)], y.2.2.2))) none))) (P.cond (P.ile y.1 x.2.1) (P.cond (P.ilt y.1 (P.len x.1.2.1)) (P.cond (P.inb y.1 (P.len x.1.2.1)) (P.cond (P.ieq y.1 x.2.1) (P.cond (P.room (P.add (P.len y.2.2.1) (P.len [x.2.2])) 8) (some (Sum.inl (P.wrap .i64 (P.add y.1 i1), y.2.1, P.app y.2.2.1 [x.2.2], y.2.2.2))) none) (P.cond (P.room (P.add (P.len y.2.2.1) (P.len [P.get x.1.2.1 y.1 i0])) 8) (some (Sum.inl (P.wrap .i64 (P.add y.1 i1), y.2.1, P.app y.2.2.1 [P.get x.1.2.1 y.1 i0], y.2.2.2))) none)) none) (P.cond (P.ieq y.1 x.2.1) (P.cond (P.room (P.add (P.len y.2.2.1) (P.len [x.2.2])) 8) (some (Sum.inl (P.wrap .i64 (P.add y.1 i1), y.2.1, P.app y.2.2.1 [x.2.2], y.2.2.2))) none) (P.cond (P.room (P.add (P.len y.2.2.1) (P.len [(-1 : Int)])) 8) (some (Sum.inl (P.wrap .i64 (P.add y.1 i1), y.2.1, P.app y.2.2.1 [(-1 : Int)], y.2.2.2))) none))) (some (Sum.inr (Sum.inl (y.2.1, y.2.2.1, y.2.2.2)))))) (i0, x.1.1, [], [])) (P.either (fun (z : t8) => P.bind (P.iter k (fun (y : Int × t8) => P.cond (P.ilt y.1 (P.len x.1.2.2)) (P.cond (P.ilt y.1 (P.len x.1.2.2)) (P.cond (P.inb y.1 (P.len x.1.2.2)) (P.cond (P.room (P.add (P.len (P.nil Int)) (P.len (P.get x.1.2.2 y.1 []))) 8) (P.cond (P.ieq y.1 x.2.1) (P.cond (P.ilt y.1 (P.len x.1.2.1)) (P.cond (P.inb y.1 (P.len x.1.2.1)) (P.cond (P.not (P.ieq (P.get x.1.2.1 y.1 i0) ((-1 : Int)))) (P.cond (P.inb y.1 (P.len x.1.2.1)) (P.cond (P.room (P.add (P.len (P.app [] (P.get x.1.2.2 y.1 []))) (P.len [P.get x.1.2.1 y.1 i0])) 8) (P.cond (P.room (P.add (P.len y.2.2.2) (P.len [P.app (P.app [] (P.get x.1.2.2 y.1 [])) [P.get x.1.2.1 y.1 i0]])) 24) (some (Sum.inl (P.wrap .i64 (P.add y.1 i1), y.2.1, y.2.2.1, P.app y.2.2.2 [P.app (P.app [] (P.get x.1.2.2 y.1 [])) [P.get x.1.2.1 y.1 i0]]))) none) none) none) (P.cond (P.room (P.add (P.len y.2.2.2) (P.len [P.app [] (P.get x.1.2.2 y.1 [])])) 24) (some (Sum.inl (P.wrap .i64 (P.add y.1 i1), y.2.1, y.2.2.1, P.app y.2.2.2 [P.app [] (P.get x.1.2.2 y.1 [])]))) none)) none) (P.cond (P.room (P.add (P.len y.2.2.2) (P.len [P.app [] (P.get x.1.2.2 y.1 [])])) 24) (some (Sum.inl (P.wrap .i64 (P.add y.1 i1), y.2.1, y.2.2.1, P.app y.2.2.2 [P.app [] (P.get x.1.2.2 y.1 [])]))) none)) (P.cond (P.room (P.add (P.len y.2.2.2) (P.len [P.app [] (P.get x.1.2.2 y.1 [])])) 24) (some (Sum.inl (P.wrap .i64 (P.add y.1 i1), y.2.1, y.2.2.1, P.app y.2.2.2 [P.app [] (P.get x.1.2.2 y.1 [])]))) none)) none) none) (P.cond (P.ieq y.1 x.2.1) (P.cond (P.ilt y.1 (P.len x.1.2.1)) (P.cond (P.inb y.1 (P.len x.1.2.1)) (P.cond (P.not (P.ieq (P.get x.1.2.1 y.1 i0) ((-1 : Int)))) (P.cond (P.inb y.1 (P.len x.1.2.1)) (P.cond (P.room (P.add (P.len (P.nil Int)) (P.len [P.get x.1.2.1 y.1 i0])) 8) (P.cond (P.room (P.add (P.len y.2.2.2) (P.len [P.app [] [P.get x.1.2.1 y.1 i0]])) 24) (some (Sum.inl (P.wrap .i64 (P.add y.1 i1), y.2.1, y.2.2.1, P.app y.2.2.2 [P.app [] [P.get x.1.2.1 y.1 i0]]))) none) none) none) (P.cond (P.room (P.add (P.len y.2.2.2) (P.len [([] : List Int)])) 24) (some (Sum.inl (P.wrap .i64 (P.add y.1 i1), y.2.1, y.2.2.1, P.app y.2.2.2 [[]]))) none)) none) (P.cond (P.room (P.add (P.len y.2.2.2) (P.len [([] : List Int)])) 24) (some (Sum.inl (P.wrap .i64 (P.add y.1 i1), y.2.1, y.2.2.1, P.app y.2.2.2 [[]]))) none)) (P.cond (P.room (P.add (P.len y.2.2.2) (P.len [([] : List Int)])) 24) (some (Sum.inl (P.wrap .i64 (P.add y.1 i1), y.2.1, y.2.2.1, P.app y.2.2.2 [[]]))) none))) (P.cond (P.ile y.1 x.2.1) (P.cond (P.ilt y.1 (P.len x.1.2.2)) (P.cond (P.inb y.1 (P.len x.1.2.2)) (P.cond (P.room (P.add (P.len (P.nil Int)) (P.len (P.get x.1.2.2 y.1 []))) 8) (P.cond (P.ieq y.1 x.2.1) (P.cond (P.ilt y.1 (P.len x.1.2.1)) (P.cond (P.inb y.1 (P.len x.1.2.1)) (P.cond (P.not (P.ieq (P.get x.1.2.1 y.1 i0) ((-1 : Int)))) (P.cond (P.inb y.1 (P.len x.1.2.1)) (P.cond (P.room (P.add (P.len (P.app [] (P.get x.1.2.2 y.1 []))) (P.len [P.get x.1.2.1 y.1 i0])) 8) (P.cond (P.room (P.add (P.len y.2.2.2) (P.len [P.app (P.app [] (P.get x.1.2.2 y.1 [])) [P.get x.1.2.1 y.1 i0]])) 24) (some (Sum.inl (P.wrap .i64 (P.add y.1 i1), y.2.1, y.2.2.1, P.app y.2.2.2 [P.app (P.app [] (P.get x.1.2.2 y.1 [])) [P.get x.1.2.1 y.1 i0]]))) none) none) none) (P.cond (P.room (P.add (P.len y.2.2.2) (P.len [P.app [] (P.get x.1.2.2 y.1 [])])) 24) (some (Sum.inl (P.wrap .i64 (P.add y.1 i1), y.2.1, y.2.2.1, P.app y.2.2.2 [P.app [] (P.get x.1.2.2 y.1 [])]))) none)) none) (P.cond (P.room (P.add (P.len y.2.2.2) (P.len [P.app [] (P.get x.1.2.2 y.1 [])])) 24) (some (Sum.inl (P.wrap .i64 (P.add y.1 i1), y.2.1, y.2.2.1, P.app y.2.2.2 [P.app [] (P.get x.1.2.2 y.1 [])]))) none)) (P.cond (P.room (P.add (P.len y.2.2.2) (P.len [P.app [] (P.get x.1.2.2 y.1 [])])) 24) (some (Sum.inl (P.wrap .i64 (P.add y.1 i1), y.2.1, y.2.2.1, P.app y.2.2.2 [P.app [] (P.get x.1.2.2 y.1 [])]))) none)) none) none) (P.cond (P.ieq y.1 x.2.1) (P.cond (P.ilt y.1 (P.len x.1.2.1)) (P.cond (P.inb y.1 (P.len x.1.2.1)) (P.cond (P.not (P.ieq (P.get x.1.2.1 y.1 i0) ((-1 : Int)))) (P.cond (P.inb y.1 (P.len x.1.2.1)) (P.cond (P.room (P.add (P.len (P.nil Int)) (P.len [P.get x.1.2.1 y.1 i0])) 8) (P.cond (P.room (P.add (P.len y.2.2.2) (P.len [P.app [] [P.get x.1.2.1 y.1 i0]])) 24) (some (Sum.inl (P.wrap .i64 (P.add y.1 i1), y.2.1, y.2.2.1, P.app y.2.2.2 [P.app [] [P.get x.1.2.1 y.1 i0]]))) none) none) none) (P.cond (P.room (P.add (P.len y.2.2.2) (P.len [([] : List Int)])) 24) (some (Sum.inl (P.wrap .i64 (P.add y.1 i1), y.2.1, y.2.2.1, P.app y.2.2.2 [[]]))) none)) none) (P.cond (P.room (P.add (P.len y.2.2.2) (P.len [([] : List Int)])) 24) (some (Sum.inl (P.wrap .i64 (P.add y.1 i1), y.2.1, y.2.2.1, P.app y.2.2.2 [[]]))) none)) (P.cond (P.room (P.add (P.len y.2.2.2) (P.len [([] : List Int)])) 24) (some (Sum.inl (P.wrap .i64 (P.add y.1 i1), y.2.1, y.2.2.1, P.app y.2.2.2 [[]]))) none))) (some (Sum.inr (Sum.inl (y.2.1, y.2.2.1, y.2.2.2)))))) (i0, z.1, z.2.1, z.2.2)) (P.either (fun (z : t8) => some (z.1, z.2.1, z.2.2)) fun (r : t8) => some r)) fun (r : t8) => some r)))
theorem ref21_Fresh_eq (k : Nat) (x : (Ty.D (.pair T_api_Frame (.pair tI tI)))) : evFn (EN k []) 6 Tryz.f173 [(5, ⟨[.var 8 (.d tI), .box 7 [] (.s (.p (.d (.slice T_api_Prop)) (.p (.o tI) (.o (.slice tI)))))], [], (some (0, [.box 7 [] (.s (.p (.d (.slice T_api_Prop)) (.p (.o tI) (.o (.slice tI)))))]))⟩), (14, ⟨[.var 10 (.d tI), .box 7 [] (.s (.p (.d (.slice T_api_Prop)) (.p (.o tI) (.o (.slice tI)))))], [], (some (2, [.box 7 [] (.s (.p (.d (.slice T_api_Prop)) (.p (.o tI) (.o (.slice tI)))))]))⟩)] (.pair T_api_Frame (.pair tI tI)) T_api_Frame x = ref21_Fresh k x := by kernel_rfl
theorem ref21_Fresh_spec (k : Nat) : SpecOk Tryz.prog GG 173 ⟨(.pair T_api_Frame (.pair tI tI)), T_api_Frame, ref21_Fresh k⟩ :=
  fn_spec (envOk (E := EN k _) tabOk (.nil) codesOk mixedOk ggKeep) Tryz.func173 (fun x => (ref21_Fresh_eq k x).symm)
noncomputable def ref22_object : (k : Nat) → (Ty.D (.pair T_proteanref22_Turn (.pair (.int .i64) (.pair (.int .i64) (.pair (.st slfB) (.pair (.slice T_api_Val) T_proteanref22_Turn)))))) → Option (Ty.D T_proteanref22_Turn) := fun (k : Nat) (x : (T_proteanref22_Turn.pair ((Ty.int IntKind.i64).pair ((Ty.int IntKind.i64).pair (slfB.st.pair (T_api_Val.slice.pair T_proteanref22_Turn))))).D) => let c0 := (P.either (fun (z : t10) => P.bind (ref19_New k (x.1.1.2.2.2.2.2.2.1, z)) fun (r : List (t10) × (Int × Int) × Bool) => P.cond (P.not r.2.2) (some x.2.2.2.2.2) (P.cond (P.inb x.2.1 (P.len x.1.1.1)) (P.bind (ref04_Site k ((P.get x.1.1.1 x.2.1 ((ByteArray.mk #[]), [], [])).2.2, x.2.2.1)) fun (r_1 : Int × Bool) => P.bind (ref21_Fresh k (x.1.2.1, r_1.1, r.2.1.2)) fun (r_2 : t8) => P.bind (ref22_set k (((x.1.1.1, x.1.1.2.1, x.1.1.2.2.1, x.1.1.2.2.2.1, x.1.1.2.2.2.2.1, x.1.1.2.2.2.2.2.1, r.1, x.1.1.2.2.2.2.2.2.2), r_2, x.1.2.2), x.2.2.2.1.2.1, r.2.1)) fun (r : t0) => some r) none)) fun (r : t0) => some r); let c1 := ((0 : Int), [], P.get x.2.2.2.2.1 (P.len x.2.2.2.1.2.2.2.2.2.1) ((0 : Int), (0 : Int))); P.cond (P.inb (P.len x.2.2.2.1.2.2.2.2.2.1) (P.len x.2.2.2.2.1)) (P.cond (P.not (P.ieq (P.get x.2.2.2.2.1 (P.len x.2.2.2.1.2.2.2.2.2.1) ((0 : Int), (0 : Int))).1 (0 : Int))) (P.cond (P.not (P.ieq (P.get x.2.2.2.2.1 (P.len x.2.2.2.1.2.2.2.2.2.1) ((0 : Int), (0 : Int))).1 ((4 : Int)))) (some x.2.2.2.2.2) (P.bind (P.iter k (fun (y : Int × t10) => P.cond (P.ilt y.1 (P.len x.2.2.2.1.2.2.2.2.2.1)) (P.cond (P.inb y.1 (P.len x.2.2.2.1.2.2.2.2.2.1)) (P.cond (P.inb y.1 (P.len x.2.2.2.2.1)) (P.bind (ref19_With k (y.2.1, P.get x.2.2.2.1.2.2.2.2.2.1 y.1 (ByteArray.mk #[]), P.get x.2.2.2.2.1 y.1 ((0 : Int), (0 : Int)))) fun (r : List (ByteArray × Int × Int)) => some (Sum.inl (P.wrap .i64 (P.add y.1 (1 : Int)), r, y.2.2))) none) none) (some (Sum.inr (Sum.inl y.2)))) c1) c0)) (P.bind (P.iter k (fun (y : Int × t10) => P.cond (P.ilt y.1 (P.len x.2.2.2.1.2.2.2.2.2.1)) (P.cond (P.inb y.1 (P.len x.2.2.2.1.2.2.2.2.2.1)) (P.cond (P.inb y.1 (P.len x.2.2.2.2.1)) (P.bind (ref19_With k (y.2.1, P.get x.2.2.2.1.2.2.2.2.2.1 y.1 (ByteArray.mk #[]), P.get x.2.2.2.2.1 y.1 ((0 : Int), (0 : Int)))) fun (r : List (ByteArray × Int × Int)) => some (Sum.inl (P.wrap .i64 (P.add y.1 (1 : Int)), r, y.2.2))) none) none) (some (Sum.inr (Sum.inl y.2)))) c1) c0)) none
theorem ref22_object_eq (k : Nat) (x : (Ty.D (.pair T_proteanref22_Turn (.pair tI (.pair tI (.pair (.st slfB) (.pair (.slice T_api_Val) T_proteanref22_Turn))))))) : evFn (EN k [(111, ⟨(.pair (.slice T_api_Prop) (.pair .str T_api_Val)), (.slice T_api_Prop), ref19_With k⟩), (138, ⟨(.pair T_proteanref22_Turn (.pair .str T_api_Val)), T_proteanref22_Turn, ref22_set k⟩), (171, ⟨(.pair (.slice T_api_Obj) T_api_Obj), (.pair (.slice T_api_Obj) (.pair T_api_Val .bool)), ref19_New k⟩), (172, ⟨(.pair (.slice .slf) tI), (.pair tI .bool), ref04_Site k⟩), (173, ⟨(.pair T_api_Frame (.pair tI tI)), T_api_Frame, ref21_Fresh k⟩)]) 6 Tryz.f143 [(5, ⟨[.var 14 (.d tI), .box 13 [] (.d T_api_Obj)], [], (some (0, [.box 13 [] (.d T_api_Obj)]))⟩)] (.pair T_proteanref22_Turn (.pair tI (.pair tI (.pair (.st slfB) (.pair (.slice T_api_Val) T_proteanref22_Turn))))) T_proteanref22_Turn x = ref22_object k x := by kernel_rfl
theorem ref22_object_spec (k : Nat) : SpecOk Tryz.prog GG 143 ⟨(.pair T_proteanref22_Turn (.pair tI (.pair tI (.pair (.st slfB) (.pair (.slice T_api_Val) T_proteanref22_Turn))))), T_proteanref22_Turn, ref22_object k⟩ :=
  fn_spec (envOk (E := EN k _) tabOk (.cons (ref19_With_spec k) Tryz.func111 f111_ok <| .cons (ref22_set_spec k) Tryz.func138 f138_ok <| .cons (ref19_New_spec k) Tryz.func171 f171_ok <| .cons (ref04_Site_spec k) Tryz.func172 f172_ok <| .cons (ref21_Fresh_spec k) Tryz.func173 f173_ok <| .nil) codesOk mixedOk ggKeep) Tryz.func143 (fun x => (ref22_object_eq k x).symm)
noncomputable def ref22_incoming : (k : Nat) → (Ty.D (.pair T_proteanref22_Turn (.st slfB))) → Option (Ty.D T_proteanref22_Turn) := fun (k : Nat) (x : (T_proteanref22_Turn.pair slfB.st).D) => P.cond (P.ieq (P.len x.1.1.2.2.2.1) (0 : Int)) (P.bind (ref22_set k (x.1, x.2.2.1, (0 : Int), (0 : Int))) fun (r : t0) => some r) (P.cond (P.inb (0 : Int) (P.len x.1.1.2.2.2.1)) (P.cond (P.cut (1 : Int) (P.len x.1.1.2.2.2.1) (P.len x.1.1.2.2.2.1)) (P.cond (P.ilt ((2 : Int)) (P.get x.1.1.2.2.2.1 (0 : Int) ((0 : Int), (0 : Int))).1) (P.bind (ref22_set k (((x.1.1.1, x.1.1.2.1, x.1.1.2.2.1, P.sub_ x.1.1.2.2.2.1 (1 : Int) (P.len x.1.1.2.2.2.1), x.1.1.2.2.2.2), x.1.2), x.2.2.1, (0 : Int), (0 : Int))) fun (r : t0) => some r) (P.bind (ref19_Right k ([], P.get x.1.1.2.2.2.1 (0 : Int) ((0 : Int), (0 : Int)))) fun (r : Bool) => P.cond (P.not r) (P.bind (ref22_set k (((x.1.1.1, x.1.1.2.1, x.1.1.2.2.1, P.sub_ x.1.1.2.2.2.1 (1 : Int) (P.len x.1.1.2.2.2.1), x.1.1.2.2.2.2), x.1.2), x.2.2.1, (0 : Int), (0 : Int))) fun (r : t0) => some r) (P.bind (ref22_set k (((x.1.1.1, x.1.1.2.1, x.1.1.2.2.1, P.sub_ x.1.1.2.2.2.1 (1 : Int) (P.len x.1.1.2.2.2.1), x.1.1.2.2.2.2), x.1.2), x.2.2.1, P.get x.1.1.2.2.2.1 (0 : Int) ((0 : Int), (0 : Int)))) fun (r : t0) => some r))) none) none)
theorem ref22_incoming_eq (k : Nat) (x : (Ty.D (.pair T_proteanref22_Turn (.st slfB)))) : evFn (EN k [(138, ⟨(.pair T_proteanref22_Turn (.pair .str T_api_Val)), T_proteanref22_Turn, ref22_set k⟩), (169, ⟨(.pair (.slice T_api_Obj) T_api_Val), .bool, ref19_Right k⟩)]) 6 Tryz.f145 [] (.pair T_proteanref22_Turn (.st slfB)) T_proteanref22_Turn x = ref22_incoming k x := by kernel_rfl
theorem ref22_incoming_spec (k : Nat) : SpecOk Tryz.prog GG 145 ⟨(.pair T_proteanref22_Turn (.st slfB)), T_proteanref22_Turn, ref22_incoming k⟩ :=
  fn_spec (envOk (E := EN k _) tabOk (.cons (ref22_set_spec k) Tryz.func138 f138_ok <| .cons (ref19_Right_spec k) Tryz.func169 f169_ok <| .nil) codesOk mixedOk ggKeep) Tryz.func145 (fun x => (ref22_incoming_eq k x).symm)
noncomputable def ref19_Text : (k : Nat) → (Ty.D T_api_Val) → Option (Ty.D .str) := fun (k : Nat) (x : T_api_Val.D) => P.cond (P.ieq x.1 i0) (some (ByteArray.mk #[110, 117, 108, 108])) (P.cond (P.ieq x.1 i1) (P.cond (P.ieq x.2 i0) (some (ByteArray.mk #[102, 97, 108, 115, 101])) (some (ByteArray.mk #[116, 114, 117, 101]))) (P.cond (P.ieq x.1 ((2 : Int))) (P.bind (ref03_Signed k x.2) fun (r : ByteArray) => some r) (P.cond (P.ieq x.1 ((3 : Int))) (some (ByteArray.mk #[102, 117, 110])) (P.cond (P.ieq x.1 ((4 : Int))) (some (ByteArray.mk #[111, 98, 106])) (some (ByteArray.mk #[63]))))))
theorem ref19_Text_eq (k : Nat) (x : (Ty.D T_api_Val)) : evFn (EN k [(134, ⟨tI, .str, ref03_Signed k⟩)]) 6 Tryz.f146 [] T_api_Val .str x = ref19_Text k x := by kernel_rfl
theorem ref19_Text_spec (k : Nat) : SpecOk Tryz.prog GG 146 ⟨T_api_Val, .str, ref19_Text k⟩ :=
  fn_spec (envOk (E := EN k _) tabOk (.cons (ref03_Signed_spec k) Tryz.func134 f134_ok <| .nil) codesOk mixedOk ggKeep) Tryz.func146 (fun x => (ref19_Text_eq k x).symm)
noncomputable def ref22_call_ (ref22_called : Nat → (Ty.D (.pair T_proteanref22_Turn (.pair (.int .i64) (.pair (.st slfB) (.slice T_api_Val))))) → Option (Ty.D T_proteanref22_Turn)) (ref22_stmt : Nat → (Ty.D (.pair T_proteanref22_Turn (.pair (.int .i64) (.pair (.int .i64) (.st slfB))))) → Option (Ty.D T_proteanref22_Turn)) (ref22_block : Nat → (Ty.D (.pair T_proteanref22_Turn (.pair (.int .i64) (.pair (.slice .slf) (.int .i64))))) → Option (Ty.D T_proteanref22_Turn)) (ref22_call : Nat → (Ty.D (.pair T_proteanref22_Machine (.pair (.int .i64) (.slice T_api_Val)))) → Option (Ty.D (.pair T_proteanref22_Machine T_api_Val))) : (k : Nat) → (Ty.D (.pair T_proteanref22_Machine (.pair (.int .i64) (.slice T_api_Val)))) → Option (Ty.D (.pair T_proteanref22_Machine T_api_Val)) := fun (k : Nat) (x : (T_proteanref22_Machine.pair ((Ty.int IntKind.i64).pair T_api_Val.slice)).D) => P.cond (P.ile ((60 : Int)) x.1.2.2.2.2.2.1) (some ((x.1.1, x.1.2.1, x.1.2.2.1, x.1.2.2.2.1, x.1.2.2.2.2.1, x.1.2.2.2.2.2.1, x.1.2.2.2.2.2.2.1, (1 : Int), (0 : Int), x.1.2.2.2.2.2.2.2.2.2), (0 : Int), (0 : Int))) (P.cond (P.inb x.2.1 (P.len x.1.1)) (P.bind (P.iter k (fun (y : Int × t0) => P.cond (P.ilt y.1 (P.len (P.get x.1.1 x.2.1 ((ByteArray.mk #[]), [], [])).2.1)) (P.cond (P.inb y.1 (P.len (P.get x.1.1 x.2.1 ((ByteArray.mk #[]), [], [])).2.1)) (P.cond (P.inb y.1 (P.len x.2.2)) (P.bind (ref21_Set k (y.2.2.1, P.get (P.get x.1.1 x.2.1 ((ByteArray.mk #[]), [], [])).2.1 y.1 (ByteArray.mk #[]), P.get x.2.2 y.1 ((0 : Int), (0 : Int)))) fun (r : t8) => some (Sum.inl (P.wrap .i64 (P.add y.1 (1 : Int)), y.2.1, r, y.2.2.2))) none) none) (some (Sum.inr (Sum.inl y.2)))) ((0 : Int), (x.1.1, x.1.2.1, x.1.2.2.1, x.1.2.2.2.1, x.1.2.2.2.2.1, P.wrap .i64 (P.add x.1.2.2.2.2.2.1 (1 : Int)), x.1.2.2.2.2.2.2), ([], [], []), false, (0 : Int), (0 : Int))) (P.either (fun (z : t0) => P.bind (ref22_block k (z, x.2.1, (P.get x.1.1 x.2.1 ((ByteArray.mk #[]), [], [])).2.2, (0 : Int))) fun (r : t0) => some ((r.1.1, r.1.2.1, r.1.2.2.1, r.1.2.2.2.1, r.1.2.2.2.2.1, P.wrap .i64 (P.sub r.1.2.2.2.2.2.1 (1 : Int)), r.1.2.2.2.2.2.2), r.2.2.2)) fun (r : (t1) × Int × Int) => some r)) none)
theorem ref22_call_eq (ref22_called : Nat → (Ty.D (.pair T_proteanref22_Turn (.pair tI (.pair (.st slfB) (.slice T_api_Val))))) → Option (Ty.D T_proteanref22_Turn)) (ref22_stmt : Nat → (Ty.D (.pair T_proteanref22_Turn (.pair tI (.pair tI (.st slfB))))) → Option (Ty.D T_proteanref22_Turn)) (ref22_block : Nat → (Ty.D (.pair T_proteanref22_Turn (.pair tI (.pair (.slice .slf) tI)))) → Option (Ty.D T_proteanref22_Turn)) (ref22_call : Nat → (Ty.D (.pair T_proteanref22_Machine (.pair tI (.slice T_api_Val)))) → Option (Ty.D (.pair T_proteanref22_Machine T_api_Val))) (k : Nat) (x : (Ty.D (.pair T_proteanref22_Machine (.pair tI (.slice T_api_Val))))) : evFn (EN k [(91, ⟨(.pair T_api_Frame (.pair .str T_api_Val)), T_api_Frame, ref21_Set k⟩), (92, ⟨(.pair T_proteanref22_Turn (.pair tI (.pair (.slice .slf) tI))), T_proteanref22_Turn, ref22_block k⟩)]) 6 Tryz.f63 [(9, ⟨[.var 10 (.d tI), .box 8 [] (.d T_proteanref22_Turn)], [], (some (0, [.box 8 [] (.d T_proteanref22_Turn)]))⟩)] (.pair T_proteanref22_Machine (.pair tI (.slice T_api_Val))) (.pair T_proteanref22_Machine T_api_Val) x = ref22_call_ ref22_called ref22_stmt ref22_block ref22_call k x := by kernel_rfl
theorem ref22_call_specR (ref22_called : Nat → (Ty.D (.pair T_proteanref22_Turn (.pair tI (.pair (.st slfB) (.slice T_api_Val))))) → Option (Ty.D T_proteanref22_Turn)) (ref22_stmt : Nat → (Ty.D (.pair T_proteanref22_Turn (.pair tI (.pair tI (.st slfB))))) → Option (Ty.D T_proteanref22_Turn)) (ref22_block : Nat → (Ty.D (.pair T_proteanref22_Turn (.pair tI (.pair (.slice .slf) tI)))) → Option (Ty.D T_proteanref22_Turn)) (ref22_call : Nat → (Ty.D (.pair T_proteanref22_Machine (.pair tI (.slice T_api_Val)))) → Option (Ty.D (.pair T_proteanref22_Machine T_api_Val))) (k : Nat) (h144 : SpecOk Tryz.prog GG 144 ⟨(.pair T_proteanref22_Turn (.pair tI (.pair (.st slfB) (.slice T_api_Val)))), T_proteanref22_Turn, ref22_called k⟩) (h113 : SpecOk Tryz.prog GG 113 ⟨(.pair T_proteanref22_Turn (.pair tI (.pair tI (.st slfB)))), T_proteanref22_Turn, ref22_stmt k⟩) (h92 : SpecOk Tryz.prog GG 92 ⟨(.pair T_proteanref22_Turn (.pair tI (.pair (.slice .slf) tI))), T_proteanref22_Turn, ref22_block k⟩) (h63 : SpecOk Tryz.prog GG 63 ⟨(.pair T_proteanref22_Machine (.pair tI (.slice T_api_Val))), (.pair T_proteanref22_Machine T_api_Val), ref22_call k⟩) : SpecOk Tryz.prog GG 63 ⟨(.pair T_proteanref22_Machine (.pair tI (.slice T_api_Val))), (.pair T_proteanref22_Machine T_api_Val), ref22_call_ ref22_called ref22_stmt ref22_block ref22_call k⟩ :=
  fn_spec (envOk (E := EN k _) tabOk (.cons (ref21_Set_spec k) Tryz.func91 f91_ok <| .cons h92 Tryz.func92 f92_ok <| .nil) codesOk mixedOk ggKeep) Tryz.func63 (fun x => (ref22_call_eq ref22_called ref22_stmt ref22_block ref22_call k x).symm)
noncomputable def ref22_block_ (ref22_called : Nat → (Ty.D (.pair T_proteanref22_Turn (.pair (.int .i64) (.pair (.st slfB) (.slice T_api_Val))))) → Option (Ty.D T_proteanref22_Turn)) (ref22_stmt : Nat → (Ty.D (.pair T_proteanref22_Turn (.pair (.int .i64) (.pair (.int .i64) (.st slfB))))) → Option (Ty.D T_proteanref22_Turn)) (ref22_block : Nat → (Ty.D (.pair T_proteanref22_Turn (.pair (.int .i64) (.pair (.slice .slf) (.int .i64))))) → Option (Ty.D T_proteanref22_Turn)) (ref22_call : Nat → (Ty.D (.pair T_proteanref22_Machine (.pair (.int .i64) (.slice T_api_Val)))) → Option (Ty.D (.pair T_proteanref22_Machine T_api_Val))) : (k : Nat) → (Ty.D (.pair T_proteanref22_Turn (.pair (.int .i64) (.pair (.slice .slf) (.int .i64))))) → Option (Ty.D T_proteanref22_Turn) := fun (k : Nat) (x : (T_proteanref22_Turn.pair ((Ty.int IntKind.i64).pair (Ty.slf.slice.pair (Ty.int IntKind.i64)))).D) => P.bind (P.iter k (fun (y : Int × Int × t0) => P.cond (P.ilt y.2.1 (P.len x.2.2.1)) (P.bind (ref22_on k y.2.2) fun (r : Bool) => P.cond r (P.cond (P.inb y.2.1 (P.len x.2.2.1)) (P.bind (ref22_stmt k (y.2.2, x.2.1, y.1, P.tun (P.get x.2.2.1 y.2.1 (P.tof ((0 : Int), (ByteArray.mk #[]), (ByteArray.mk #[]), (ByteArray.mk #[]), [], [], [], []))))) fun (r : t0) => P.cond (P.cut y.2.1 (P.wrap .i64 (P.add y.2.1 (1 : Int))) (P.len x.2.2.1)) (P.bind (ref03_Count k (P.sub_ x.2.2.1 y.2.1 (P.wrap .i64 (P.add y.2.1 (1 : Int))))) fun (r_1 : Int) => some (Sum.inl (P.wrap .i64 (P.add y.1 r_1), P.wrap .i64 (P.add y.2.1 (1 : Int)), r))) none) none) (some (Sum.inr (Sum.inl y.2.2)))) (some (Sum.inr (Sum.inl y.2.2)))) (x.2.2.2, (0 : Int), x.1)) (P.either (fun (z : t0) => some z) fun (r : t0) => some r)
theorem ref22_block_eq (ref22_called : Nat → (Ty.D (.pair T_proteanref22_Turn (.pair tI (.pair (.st slfB) (.slice T_api_Val))))) → Option (Ty.D T_proteanref22_Turn)) (ref22_stmt : Nat → (Ty.D (.pair T_proteanref22_Turn (.pair tI (.pair tI (.st slfB))))) → Option (Ty.D T_proteanref22_Turn)) (ref22_block : Nat → (Ty.D (.pair T_proteanref22_Turn (.pair tI (.pair (.slice .slf) tI)))) → Option (Ty.D T_proteanref22_Turn)) (ref22_call : Nat → (Ty.D (.pair T_proteanref22_Machine (.pair tI (.slice T_api_Val)))) → Option (Ty.D (.pair T_proteanref22_Machine T_api_Val))) (k : Nat) (x : (Ty.D (.pair T_proteanref22_Turn (.pair tI (.pair (.slice .slf) tI))))) : evFn (EN k [(61, ⟨(.slice .slf), tI, ref03_Count k⟩), (112, ⟨T_proteanref22_Turn, .bool, ref22_on k⟩), (113, ⟨(.pair T_proteanref22_Turn (.pair tI (.pair tI (.st slfB)))), T_proteanref22_Turn, ref22_stmt k⟩)]) 6 Tryz.f92 [(2, ⟨[.var 3 (.d tI), .var 9 (.d tI), .box 4 [] (.d T_proteanref22_Turn)], [], (some (0, [.box 4 [] (.d T_proteanref22_Turn)]))⟩)] (.pair T_proteanref22_Turn (.pair tI (.pair (.slice .slf) tI))) T_proteanref22_Turn x = ref22_block_ ref22_called ref22_stmt ref22_block ref22_call k x := by kernel_rfl
theorem ref22_block_specR (ref22_called : Nat → (Ty.D (.pair T_proteanref22_Turn (.pair tI (.pair (.st slfB) (.slice T_api_Val))))) → Option (Ty.D T_proteanref22_Turn)) (ref22_stmt : Nat → (Ty.D (.pair T_proteanref22_Turn (.pair tI (.pair tI (.st slfB))))) → Option (Ty.D T_proteanref22_Turn)) (ref22_block : Nat → (Ty.D (.pair T_proteanref22_Turn (.pair tI (.pair (.slice .slf) tI)))) → Option (Ty.D T_proteanref22_Turn)) (ref22_call : Nat → (Ty.D (.pair T_proteanref22_Machine (.pair tI (.slice T_api_Val)))) → Option (Ty.D (.pair T_proteanref22_Machine T_api_Val))) (k : Nat) (h144 : SpecOk Tryz.prog GG 144 ⟨(.pair T_proteanref22_Turn (.pair tI (.pair (.st slfB) (.slice T_api_Val)))), T_proteanref22_Turn, ref22_called k⟩) (h113 : SpecOk Tryz.prog GG 113 ⟨(.pair T_proteanref22_Turn (.pair tI (.pair tI (.st slfB)))), T_proteanref22_Turn, ref22_stmt k⟩) (h92 : SpecOk Tryz.prog GG 92 ⟨(.pair T_proteanref22_Turn (.pair tI (.pair (.slice .slf) tI))), T_proteanref22_Turn, ref22_block k⟩) (h63 : SpecOk Tryz.prog GG 63 ⟨(.pair T_proteanref22_Machine (.pair tI (.slice T_api_Val))), (.pair T_proteanref22_Machine T_api_Val), ref22_call k⟩) : SpecOk Tryz.prog GG 92 ⟨(.pair T_proteanref22_Turn (.pair tI (.pair (.slice .slf) tI))), T_proteanref22_Turn, ref22_block_ ref22_called ref22_stmt ref22_block ref22_call k⟩ :=
  fn_spec (envOk (E := EN k _) tabOk (.cons (ref03_Count_spec k) Tryz.func61 f61_ok <| .cons (ref22_on_spec k) Tryz.func112 f112_ok <| .cons h113 Tryz.func113 f113_ok <| .nil) codesOk mixedOk ggKeep) Tryz.func92 (fun x => (ref22_block_eq ref22_called ref22_stmt ref22_block ref22_call k x).symm)
noncomputable def ref22_stmt_ (ref22_called : Nat → (Ty.D (.pair T_proteanref22_Turn (.pair (.int .i64) (.pair (.st slfB) (.slice T_api_Val))))) → Option (Ty.D T_proteanref22_Turn)) (ref22_stmt : Nat → (Ty.D (.pair T_proteanref22_Turn (.pair (.int .i64) (.pair (.int .i64) (.st slfB))))) → Option (Ty.D T_proteanref22_Turn)) (ref22_block : Nat → (Ty.D (.pair T_proteanref22_Turn (.pair (.int .i64) (.pair (.slice .slf) (.int .i64))))) → Option (Ty.D T_proteanref22_Turn)) (ref22_call : Nat → (Ty.D (.pair T_proteanref22_Machine (.pair (.int .i64) (.slice T_api_Val)))) → Option (Ty.D (.pair T_proteanref22_Machine T_api_Val))) : (k : Nat) → (Ty.D (.pair T_proteanref22_Turn (.pair (.int .i64) (.pair (.int .i64) (.st slfB))))) → Option (Ty.D T_proteanref22_Turn) := fun (k : Nat) (x : (T_proteanref22_Turn.pair ((Ty.int IntKind.i64).pair ((Ty.int IntKind.i64).pair slfB.st))).D) => P.bind (ref22_begin k (x.1, x.2.1, x.2.2.1, x.2.2.2)) fun (r : t0) => P.bind (ref22_on k r) fun (r_1 : Bool) => P.cond (P.not r_1) (some r) (P.bind (ref22_stop k (r, (3 : Int), P.wrap .i64 (P.add (P.wrap .i64 (P.add (P.wrap .i64 (P.mul ((10000 : Int)) x.2.1)) x.2.2.1)) (1 : Int)))) fun (r_2 : t0) => P.bind (ref22_vals k (r, x.2.2.2.2.2.2.2.1)) fun (r_3 : List (Int × Int)) => P.cond (P.ieq x.2.2.2.1 (0 : Int)) (P.cond (P.inb (0 : Int) (P.len r_3)) (P.bind (ref22_set k (r, x.2.2.2.2.1, P.get r_3 (0 : Int) ((0 : Int), (0 : Int)))) fun (r : t0) => some r) none) (P.cond (P.ieq x.2.2.2.1 (1 : Int)) (P.bind (ref22_arith k (r, x.2.2.2, r_3, r_2)) fun (r : t0) => some r) (P.cond (P.ieq x.2.2.2.1 ((2 : Int))) (P.bind (ref21_Var k (r.2.1, x.2.2.2.2.2.1)) fun (r_4 : Int × Int) => P.bind (ref19_Get k (r.1.2.2.2.2.2.2.1, r_4, x.2.2.2.2.2.2.1)) fun (r_5 : (Int × Int) × Bool) => P.cond (P.not r_5.2) (some r_2) (P.bind (ref22_set k (r, x.2.2.2.2.1, r_5.1)) fun (r : t0) => some r)) (P.cond (P.ieq x.2.2.2.1 ((3 : Int))) (P.bind (ref21_Var k (r.2.1, x.2.2.2.2.1)) fun (r_4 : Int × Int) => P.cond (P.inb (0 : Int) (P.len r_3)) (P.bind (ref19_Set k (r.1.2.2.2.2.2.2.1, r_4, x.2.2.2.2.2.2.1, P.get r_3 (0 : Int) ((0 : Int), (0 : Int)))) fun (r_5 : List (t10) × Bool) => P.cond (P.not r_5.2) (some r_2) (some ((r.1.1, r.1.2.1, r.1.2.2.1, r.1.2.2.2.1, r.1.2.2.2.2.1, r.1.2.2.2.2.2.1, r_5.1, r.1.2.2.2.2.2.2.2), r.2))) none) (P.cond (P.ieq x.2.2.2.1 ((4 : Int))) (P.bind (ref22_object k (r, x.2.1, x.2.2.1, x.2.2.2, r_3, r_2)) fun (r : t0) => some r) (P.cond (P.ieq x.2.2.2.1 ((5 : Int))) (P.bind (ref05_Fun k (r.1.1, x.2.2.2.2.2.2.1)) fun (r_4 : Int) => P.bind (ref22_called k (r, r_4, x.2.2.2, r_3)) fun (r : t0) => some r) (P.cond (P.ieq x.2.2.2.1 ((6 : Int))) (P.bind (ref21_Var k (r.2.1, x.2.2.2.2.2.1)) fun (r_4 : Int × Int) => P.cond (P.not (P.ieq r_4.1 ((3 : Int)))) (some r_2) (P.cond (P.ilt r_4.2 (0 : Int)) (some r_2) (P.cond (P.ile (P.len r.1.2.2.1) r_4.2) (some r_2) (P.cond (P.inb r_4.2 (P.len r.1.2.2.1)) (P.cond (P.not (P.ieq (P.get r.1.2.2.1 r_4.2 (0 : Int)) (P.len r_3))) (some r_2) (P.bind (ref22_called k (r, r_4.2, x.2.2.2, r_3)) fun (r : t0) => some r)) none)))) (P.cond (P.ieq x.2.2.2.1 ((7 : Int))) (P.bind (ref22_incoming k (r, x.2.2.2)) fun (r : t0) => some r) (P.cond (P.ieq x.2.2.2.1 ((8 : Int))) (P.cond (P.inb (0 : Int) (P.len r_3)) (P.bind (ref19_Text k (P.get r_3 (0 : Int) ((0 : Int), (0 : Int)))) fun (r : ByteArray) => none) none) (P.cond (P.ieq x.2.2.2.1 ((11 : Int))) (P.cond (P.inb (0 : Int) (P.len r_3)) (some (r.1, r.2.1, true, P.get r_3 (0 : Int) ((0 : Int), (0 : Int)))) none) (P.cond (P.inb (0 : Int) (P.len r_3)) (P.cond (P.not (P.ieq (P.get r_3 (0 : Int) ((0 : Int), (0 : Int))).1 (1 : Int))) (some r_2) (P.cond (P.ieq x.2.2.2.1 ((9 : Int))) (P.cond (P.inb (0 : Int) (P.len r_3)) (P.cond (P.ieq (P.get r_3 (0 : Int) ((0 : Int), (0 : Int))).2 (0 : Int)) (P.bind (ref03_Count k x.2.2.2.2.2.2.2.2.2.1) fun (r_4 : Int) => P.bind (ref22_block k (r, x.2.1, x.2.2.2.2.2.2.2.2.2.2, P.wrap .i64 (P.add (P.wrap .i64 (P.add x.2.2.1 (1 : Int))) r_4))) fun (r : t0) => some r) (P.cond (P.inb (0 : Int) (P.len r_3)) (P.cond (P.ieq (P.get r_3 (0 : Int) ((0 : Int), (0 : Int))).2 (0 : Int)) (some r) (P.bind (ref22_block k (r, x.2.1, x.2.2.2.2.2.2.2.2.2.1, P.wrap .i64 (P.add x.2.2.1 (1 : Int)))) fun (r : t0) => P.cond (P.ieq x.2.2.2.1 ((9 : Int))) (some r) (P.bind (ref22_on k r) fun (r_4 : Bool) => P.cond (P.not r_4) (some r) (P.bind (ref22_stmt k (r, x.2.1, x.2.2.1, x.2.2.2)) fun (r : t0) => some r)))) none)) none) (P.cond (P.inb (0 : Int) (P.len r_3)) (P.cond (P.ieq (P.get r_3 (0 : Int) ((0 : Int), (0 : Int))).2 (0 : Int)) (some r) (P.bind (ref22_block k (r, x.2.1, x.2.2.2.2.2.2.2.2.2.1, P.wrap .i64 (P.add x.2.2.1 (1 : Int)))) fun (r : t0) => P.cond (P.ieq x.2.2.2.1 ((9 : Int))) (some r) (P.bind (ref22_on k r) fun (r_4 : Bool) => P.cond (P.not r_4) (some r) (P.bind (ref22_stmt k (r, x.2.1, x.2.2.1, x.2.2.2)) fun (r : t0) => some r)))) none))) none)))))))))))
theorem ref22_stmt_eq (ref22_called : Nat → (Ty.D (.pair T_proteanref22_Turn (.pair tI (.pair (.st slfB) (.slice T_api_Val))))) → Option (Ty.D T_proteanref22_Turn)) (ref22_stmt : Nat → (Ty.D (.pair T_proteanref22_Turn (.pair tI (.pair tI (.st slfB))))) → Option (Ty.D T_proteanref22_Turn)) (ref22_block : Nat → (Ty.D (.pair T_proteanref22_Turn (.pair tI (.pair (.slice .slf) tI)))) → Option (Ty.D T_proteanref22_Turn)) (ref22_call : Nat → (Ty.D (.pair T_proteanref22_Machine (.pair tI (.slice T_api_Val)))) → Option (Ty.D (.pair T_proteanref22_Machine T_api_Val))) (k : Nat) (x : (Ty.D (.pair T_proteanref22_Turn (.pair tI (.pair tI (.st slfB)))))) : evFn (EN k [(45, ⟨(.pair T_api_Program .str), tI, ref05_Fun k⟩), (61, ⟨(.slice .slf), tI, ref03_Count k⟩), (92, ⟨(.pair T_proteanref22_Turn (.pair tI (.pair (.slice .slf) tI))), T_proteanref22_Turn, ref22_block k⟩), (112, ⟨T_proteanref22_Turn, .bool, ref22_on k⟩), (113, ⟨(.pair T_proteanref22_Turn (.pair tI (.pair tI (.st slfB)))), T_proteanref22_Turn, ref22_stmt k⟩), (135, ⟨(.pair T_proteanref22_Turn (.pair tI (.pair tI (.st slfB)))), T_proteanref22_Turn, ref22_begin k⟩), (136, ⟨(.pair T_proteanref22_Turn (.pair tI tI)), T_proteanref22_Turn, ref22_stop k⟩), (137, ⟨(.pair T_proteanref22_Turn (.slice T_api_Operand)), (.slice T_api_Val), ref22_vals k⟩), (138, ⟨(.pair T_proteanref22_Turn (.pair .str T_api_Val)), T_proteanref22_Turn, ref22_set k⟩), (139, ⟨(.pair T_proteanref22_Turn (.pair (.st slfB) (.pair (.slice T_api_Val) T_proteanref22_Turn))), T_proteanref22_Turn, ref22_arith k⟩), (140, ⟨(.pair (.slice T_api_Obj) (.pair T_api_Val .str)), (.pair T_api_Val .bool), ref19_Get k⟩), (141, ⟨(.pair T_api_Frame .str), T_api_Val, ref21_Var k⟩), (142, ⟨(.pair (.slice T_api_Obj) (.pair T_api_Val (.pair .str T_api_Val))), (.pair (.slice T_api_Obj) .bool), ref19_Set k⟩), (143, ⟨(.pair T_proteanref22_Turn (.pair tI (.pair tI (.pair (.st slfB) (.pair (.slice T_api_Val) T_proteanref22_Turn))))), T_proteanref22_Turn, ref22_object k⟩), (144, ⟨(.pair T_proteanref22_Turn (.pair tI (.pair (.st slfB) (.slice T_api_Val)))), T_proteanref22_Turn, ref22_called k⟩), (145, ⟨(.pair T_proteanref22_Turn (.st slfB)), T_proteanref22_Turn, ref22_incoming k⟩), (146, ⟨T_api_Val, .str, ref19_Text k⟩)]) 6 Tryz.f113 [] (.pair T_proteanref22_Turn (.pair tI (.pair tI (.st slfB)))) T_proteanref22_Turn x = ref22_stmt_ ref22_called ref22_stmt ref22_block ref22_call k x := by kernel_rfl
theorem ref22_stmt_specR (ref22_called : Nat → (Ty.D (.pair T_proteanref22_Turn (.pair tI (.pair (.st slfB) (.slice T_api_Val))))) → Option (Ty.D T_proteanref22_Turn)) (ref22_stmt : Nat → (Ty.D (.pair T_proteanref22_Turn (.pair tI (.pair tI (.st slfB))))) → Option (Ty.D T_proteanref22_Turn)) (ref22_block : Nat → (Ty.D (.pair T_proteanref22_Turn (.pair tI (.pair (.slice .slf) tI)))) → Option (Ty.D T_proteanref22_Turn)) (ref22_call : Nat → (Ty.D (.pair T_proteanref22_Machine (.pair tI (.slice T_api_Val)))) → Option (Ty.D (.pair T_proteanref22_Machine T_api_Val))) (k : Nat) (h144 : SpecOk Tryz.prog GG 144 ⟨(.pair T_proteanref22_Turn (.pair tI (.pair (.st slfB) (.slice T_api_Val)))), T_proteanref22_Turn, ref22_called k⟩) (h113 : SpecOk Tryz.prog GG 113 ⟨(.pair T_proteanref22_Turn (.pair tI (.pair tI (.st slfB)))), T_proteanref22_Turn, ref22_stmt k⟩) (h92 : SpecOk Tryz.prog GG 92 ⟨(.pair T_proteanref22_Turn (.pair tI (.pair (.slice .slf) tI))), T_proteanref22_Turn, ref22_block k⟩) (h63 : SpecOk Tryz.prog GG 63 ⟨(.pair T_proteanref22_Machine (.pair tI (.slice T_api_Val))), (.pair T_proteanref22_Machine T_api_Val), ref22_call k⟩) : SpecOk Tryz.prog GG 113 ⟨(.pair T_proteanref22_Turn (.pair tI (.pair tI (.st slfB)))), T_proteanref22_Turn, ref22_stmt_ ref22_called ref22_stmt ref22_block ref22_call k⟩ :=
  fn_spec (envOk (E := EN k _) tabOk (.cons (ref05_Fun_spec k) Tryz.func45 f45_ok <| .cons (ref03_Count_spec k) Tryz.func61 f61_ok <| .cons h92 Tryz.func92 f92_ok <| .cons (ref22_on_spec k) Tryz.func112 f112_ok <| .cons h113 Tryz.func113 f113_ok <| .cons (ref22_begin_spec k) Tryz.func135 f135_ok <| .cons (ref22_stop_spec k) Tryz.func136 f136_ok <| .cons (ref22_vals_spec k) Tryz.func137 f137_ok <| .cons (ref22_set_spec k) Tryz.func138 f138_ok <| .cons (ref22_arith_spec k) Tryz.func139 f139_ok <| .cons (ref19_Get_spec k) Tryz.func140 f140_ok <| .cons (ref21_Var_spec k) Tryz.func141 f141_ok <| .cons (ref19_Set_spec k) Tryz.func142 f142_ok <| .cons (ref22_object_spec k) Tryz.func143 f143_ok <| .cons h144 Tryz.func144 f144_ok <| .cons (ref22_incoming_spec k) Tryz.func145 f145_ok <| .cons (ref19_Text_spec k) Tryz.func146 f146_ok <| .nil) codesOk mixedOk ggKeep) Tryz.func113 (fun x => (ref22_stmt_eq ref22_called ref22_stmt ref22_block ref22_call k x).symm)
noncomputable def ref22_called_ (ref22_called : Nat → (Ty.D (.pair T_proteanref22_Turn (.pair (.int .i64) (.pair (.st slfB) (.slice T_api_Val))))) → Option (Ty.D T_proteanref22_Turn)) (ref22_stmt : Nat → (Ty.D (.pair T_proteanref22_Turn (.pair (.int .i64) (.pair (.int .i64) (.st slfB))))) → Option (Ty.D T_proteanref22_Turn)) (ref22_block : Nat → (Ty.D (.pair T_proteanref22_Turn (.pair (.int .i64) (.pair (.slice .slf) (.int .i64))))) → Option (Ty.D T_proteanref22_Turn)) (ref22_call : Nat → (Ty.D (.pair T_proteanref22_Machine (.pair (.int .i64) (.slice T_api_Val)))) → Option (Ty.D (.pair T_proteanref22_Machine T_api_Val))) : (k : Nat) → (Ty.D (.pair T_proteanref22_Turn (.pair (.int .i64) (.pair (.st slfB) (.slice T_api_Val))))) → Option (Ty.D T_proteanref22_Turn) := fun (k : Nat) (x : (T_proteanref22_Turn.pair ((Ty.int IntKind.i64).pair (slfB.st.pair T_api_Val.slice))).D) => P.bind (ref22_call k (x.1.1, x.2.1, x.2.2.2)) fun (r : (t1) × Int × Int) => P.cond (P.ile (0 : Int) r.1.2.2.2.2.2.2.2.1) (some (r.1, x.1.2)) (P.bind (ref22_set k ((r.1, x.1.2), x.2.2.1.2.1, r.2)) fun (r : t0) => some r)
theorem ref22_called_eq (ref22_called : Nat → (Ty.D (.pair T_proteanref22_Turn (.pair tI (.pair (.st slfB) (.slice T_api_Val))))) → Option (Ty.D T_proteanref22_Turn)) (ref22_stmt : Nat → (Ty.D (.pair T_proteanref22_Turn (.pair tI (.pair tI (.st slfB))))) → Option (Ty.D T_proteanref22_Turn)) (ref22_block : Nat → (Ty.D (.pair T_proteanref22_Turn (.pair tI (.pair (.slice .slf) tI)))) → Option (Ty.D T_proteanref22_Turn)) (ref22_call : Nat → (Ty.D (.pair T_proteanref22_Machine (.pair tI (.slice T_api_Val)))) → Option (Ty.D (.pair T_proteanref22_Machine T_api_Val))) (k : Nat) (x : (Ty.D (.pair T_proteanref22_Turn (.pair tI (.pair (.st slfB) (.slice T_api_Val)))))) : evFn (EN k [(63, ⟨(.pair T_proteanref22_Machine (.pair tI (.slice T_api_Val))), (.pair T_proteanref22_Machine T_api_Val), ref22_call k⟩), (138, ⟨(.pair T_proteanref22_Turn (.pair .str T_api_Val)), T_proteanref22_Turn, ref22_set k⟩)]) 6 Tryz.f144 [] (.pair T_proteanref22_Turn (.pair tI (.pair (.st slfB) (.slice T_api_Val)))) T_proteanref22_Turn x = ref22_called_ ref22_called ref22_stmt ref22_block ref22_call k x := by kernel_rfl
theorem ref22_called_specR (ref22_called : Nat → (Ty.D (.pair T_proteanref22_Turn (.pair tI (.pair (.st slfB) (.slice T_api_Val))))) → Option (Ty.D T_proteanref22_Turn)) (ref22_stmt : Nat → (Ty.D (.pair T_proteanref22_Turn (.pair tI (.pair tI (.st slfB))))) → Option (Ty.D T_proteanref22_Turn)) (ref22_block : Nat → (Ty.D (.pair T_proteanref22_Turn (.pair tI (.pair (.slice .slf) tI)))) → Option (Ty.D T_proteanref22_Turn)) (ref22_call : Nat → (Ty.D (.pair T_proteanref22_Machine (.pair tI (.slice T_api_Val)))) → Option (Ty.D (.pair T_proteanref22_Machine T_api_Val))) (k : Nat) (h144 : SpecOk Tryz.prog GG 144 ⟨(.pair T_proteanref22_Turn (.pair tI (.pair (.st slfB) (.slice T_api_Val)))), T_proteanref22_Turn, ref22_called k⟩) (h113 : SpecOk Tryz.prog GG 113 ⟨(.pair T_proteanref22_Turn (.pair tI (.pair tI (.st slfB)))), T_proteanref22_Turn, ref22_stmt k⟩) (h92 : SpecOk Tryz.prog GG 92 ⟨(.pair T_proteanref22_Turn (.pair tI (.pair (.slice .slf) tI))), T_proteanref22_Turn, ref22_block k⟩) (h63 : SpecOk Tryz.prog GG 63 ⟨(.pair T_proteanref22_Machine (.pair tI (.slice T_api_Val))), (.pair T_proteanref22_Machine T_api_Val), ref22_call k⟩) : SpecOk Tryz.prog GG 144 ⟨(.pair T_proteanref22_Turn (.pair tI (.pair (.st slfB) (.slice T_api_Val)))), T_proteanref22_Turn, ref22_called_ ref22_called ref22_stmt ref22_block ref22_call k⟩ :=
  fn_spec (envOk (E := EN k _) tabOk (.cons h63 Tryz.func63 f63_ok <| .cons (ref22_set_spec k) Tryz.func138 f138_ok <| .nil) codesOk mixedOk ggKeep) Tryz.func144 (fun x => (ref22_called_eq ref22_called ref22_stmt ref22_block ref22_call k x).symm)
noncomputable def rec144 (k : Nat) (d : Nat) : (Ty.D (.pair T_proteanref22_Turn (.pair tI (.pair (.st slfB) (.slice T_api_Val)))) → Option (Ty.D T_proteanref22_Turn)) × (Ty.D (.pair T_proteanref22_Turn (.pair tI (.pair tI (.st slfB)))) → Option (Ty.D T_proteanref22_Turn)) × (Ty.D (.pair T_proteanref22_Turn (.pair tI (.pair (.slice .slf) tI))) → Option (Ty.D T_proteanref22_Turn)) × (Ty.D (.pair T_proteanref22_Machine (.pair tI (.slice T_api_Val))) → Option (Ty.D (.pair T_proteanref22_Machine T_api_Val))) :=
  Nat.rec (motive := fun _ => (Ty.D (.pair T_proteanref22_Turn (.pair tI (.pair (.st slfB) (.slice T_api_Val)))) → Option (Ty.D T_proteanref22_Turn)) × (Ty.D (.pair T_proteanref22_Turn (.pair tI (.pair tI (.st slfB)))) → Option (Ty.D T_proteanref22_Turn)) × (Ty.D (.pair T_proteanref22_Turn (.pair tI (.pair (.slice .slf) tI))) → Option (Ty.D T_proteanref22_Turn)) × (Ty.D (.pair T_proteanref22_Machine (.pair tI (.slice T_api_Val))) → Option (Ty.D (.pair T_proteanref22_Machine T_api_Val)))) ((fun _ => none), (fun _ => none), (fun _ => none), (fun _ => none)) (fun _ ih => ((ref22_called_ (fun _ => ih.1) (fun _ => ih.2.1) (fun _ => ih.2.2.1) (fun _ => ih.2.2.2) k), (ref22_stmt_ (fun _ => ih.1) (fun _ => ih.2.1) (fun _ => ih.2.2.1) (fun _ => ih.2.2.2) k), (ref22_block_ (fun _ => ih.1) (fun _ => ih.2.1) (fun _ => ih.2.2.1) (fun _ => ih.2.2.2) k), (ref22_call_ (fun _ => ih.1) (fun _ => ih.2.1) (fun _ => ih.2.2.1) (fun _ => ih.2.2.2) k))) d
noncomputable def ref22_called (k : Nat) : (Ty.D (.pair T_proteanref22_Turn (.pair (.int .i64) (.pair (.st slfB) (.slice T_api_Val))))) → Option (Ty.D T_proteanref22_Turn) := (rec144 k k).1
noncomputable def ref22_stmt (k : Nat) : (Ty.D (.pair T_proteanref22_Turn (.pair (.int .i64) (.pair (.int .i64) (.st slfB))))) → Option (Ty.D T_proteanref22_Turn) := (rec144 k k).2.1
noncomputable def ref22_block (k : Nat) : (Ty.D (.pair T_proteanref22_Turn (.pair (.int .i64) (.pair (.slice .slf) (.int .i64))))) → Option (Ty.D T_proteanref22_Turn) := (rec144 k k).2.2.1
noncomputable def ref22_call (k : Nat) : (Ty.D (.pair T_proteanref22_Machine (.pair (.int .i64) (.slice T_api_Val)))) → Option (Ty.D (.pair T_proteanref22_Machine T_api_Val)) := (rec144 k k).2.2.2
theorem rec144_spec (k : Nat) : ∀ d : Nat, SpecOk Tryz.prog GG 144 ⟨(.pair T_proteanref22_Turn (.pair tI (.pair (.st slfB) (.slice T_api_Val)))), T_proteanref22_Turn, (rec144 k d).1⟩ ∧ SpecOk Tryz.prog GG 113 ⟨(.pair T_proteanref22_Turn (.pair tI (.pair tI (.st slfB)))), T_proteanref22_Turn, (rec144 k d).2.1⟩ ∧ SpecOk Tryz.prog GG 92 ⟨(.pair T_proteanref22_Turn (.pair tI (.pair (.slice .slf) tI))), T_proteanref22_Turn, (rec144 k d).2.2.1⟩ ∧ SpecOk Tryz.prog GG 63 ⟨(.pair T_proteanref22_Machine (.pair tI (.slice T_api_Val))), (.pair T_proteanref22_Machine T_api_Val), (rec144 k d).2.2.2⟩ := by
  intro d
  induction d with
  | zero => exact ⟨specNone, specNone, specNone, specNone⟩
  | succ d ih => exact ⟨ref22_called_specR (fun _ => (rec144 k d).1) (fun _ => (rec144 k d).2.1) (fun _ => (rec144 k d).2.2.1) (fun _ => (rec144 k d).2.2.2) k ih.1 ih.2.1 ih.2.2.1 ih.2.2.2, ref22_stmt_specR (fun _ => (rec144 k d).1) (fun _ => (rec144 k d).2.1) (fun _ => (rec144 k d).2.2.1) (fun _ => (rec144 k d).2.2.2) k ih.1 ih.2.1 ih.2.2.1 ih.2.2.2, ref22_block_specR (fun _ => (rec144 k d).1) (fun _ => (rec144 k d).2.1) (fun _ => (rec144 k d).2.2.1) (fun _ => (rec144 k d).2.2.2) k ih.1 ih.2.1 ih.2.2.1 ih.2.2.2, ref22_call_specR (fun _ => (rec144 k d).1) (fun _ => (rec144 k d).2.1) (fun _ => (rec144 k d).2.2.1) (fun _ => (rec144 k d).2.2.2) k ih.1 ih.2.1 ih.2.2.1 ih.2.2.2⟩
theorem ref22_call_spec (k : Nat) : SpecOk Tryz.prog GG 63 ⟨(.pair T_proteanref22_Machine (.pair tI (.slice T_api_Val))), (.pair T_proteanref22_Machine T_api_Val), ref22_call k⟩ := (rec144_spec k k).2.2.2
noncomputable def ref22_Go : (k : Nat) → (Ty.D (.pair T_api_Program (.pair (.slice T_api_Cast) (.pair (.slice T_api_Val) (.pair (.int .i64) (.pair .bool T_api_Verdict)))))) → Option (Ty.D (.pair T_api_Outcome T_proteanref22_Machine)) := fun (k : Nat) (x : (T_api_Program.pair (T_api_Cast.slice.pair (T_api_Val.slice.pair ((Ty.int IntKind.i64).pair (Ty.bool.pair T_api_Verdict))))).D) => let c0 := (some (((3 : Int), (-1 : Int), [], ((0 : Int), (0 : Int)), (0 : Int)), x.1, x.2.1, [], x.2.2.1, x.2.2.2.1, (0 : Int), [], (-1 : Int), (0 : Int), [], (0 : Int), x.2.2.2.2.1, x.2.2.2.2.2, (0 : Int), [])); P.cond (P.ilt ((1000 : Int)) (P.len x.1)) c0 (P.bind (ref05_Check k x.1) fun (r : Int × Int) => P.cond (P.not (P.ieq r.1 (0 : Int))) c0 (P.bind (ref03_May k x.1) fun (r : Bool) => P.cond (P.not r) c0 (P.bind (P.iter k (fun (y : Int × t1) => P.cond (P.ilt y.1 (P.len x.1)) (P.cond (P.inb y.1 (P.len x.1)) (P.cond (P.room (P.add (P.len y.2.2.2.1) (P.len [P.len (P.get x.1 y.1 ((ByteArray.mk #[]), [], [])).2.1])) 8) (some (Sum.inl (P.wrap .i64 (P.add y.1 (1 : Int)), y.2.1, y.2.2.1, P.app y.2.2.2.1 [P.len (P.get x.1 y.1 ((ByteArray.mk #[]), [], [])).2.1], y.2.2.2.2.1, y.2.2.2.2.2.1, y.2.2.2.2.2.2.1, y.2.2.2.2.2.2.2.1, y.2.2.2.2.2.2.2.2.1, y.2.2.2.2.2.2.2.2.2.1, y.2.2.2.2.2.2.2.2.2.2.1, y.2.2.2.2.2.2.2.2.2.2.2.1, y.2.2.2.2.2.2.2.2.2.2.2.2.1, y.2.2.2.2.2.2.2.2.2.2.2.2.2.1, y.2.2.2.2.2.2.2.2.2.2.2.2.2.2.1, y.2.2.2.2.2.2.2.2.2.2.2.2.2.2.2))) none) none) (some (Sum.inr (Sum.inl (y.2.1, y.2.2.1, y.2.2.2.1, y.2.2.2.2.1, y.2.2.2.2.2.1, y.2.2.2.2.2.2.1, y.2.2.2.2.2.2.2.1, y.2.2.2.2.2.2.2.2.1, y.2.2.2.2.2.2.2.2.2.1, y.2.2.2.2.2.2.2.2.2.2.1, y.2.2.2.2.2.2.2.2.2.2.2.1, y.2.2.2.2.2.2.2.2.2.2.2.2.1, y.2.2.2.2.2.2.2.2.2.2.2.2.2.1, y.2.2.2.2.2.2.2.2.2.2.2.2.2.2.1, y.2.2.2.2.2.2.2.2.2.2.2.2.2.2.2))))) ((0 : Int), x.1, x.2.1, [], x.2.2.1, x.2.2.2.1, (0 : Int), [], (-1 : Int), (0 : Int), [], (0 : Int), x.2.2.2.2.1, x.2.2.2.2.2, (0 : Int), [])) (P.either (fun (z : t1) => P.bind (ref05_Fun k (x.1, (ByteArray.mk #[109, 97, 105, 110]))) fun (r : Int) => P.bind (ref22_call k ((z.1, z.2.1, z.2.2.1, z.2.2.2.1, z.2.2.2.2.1, z.2.2.2.2.2.1, z.2.2.2.2.2.2.1, z.2.2.2.2.2.2.2.1, z.2.2.2.2.2.2.2.2.1, z.2.2.2.2.2.2.2.2.2.1, z.2.2.2.2.2.2.2.2.2.2.1, z.2.2.2.2.2.2.2.2.2.2.2.1, z.2.2.2.2.2.2.2.2.2.2.2.2.1, z.2.2.2.2.2.2.2.2.2.2.2.2.2.1, z.2.2.2.2.2.2.2.2.2.2.2.2.2.2), r, [])) fun (r : (t1) × Int × Int) => P.cond (P.ile (0 : Int) r.1.2.2.2.2.2.2.2.1) (some ((r.1.2.2.2.2.2.2.2.1, r.1.2.2.2.2.2.2.2.2.1, r.1.2.2.2.2.2.2.2.2.2.1, ((0 : Int), (0 : Int)), r.1.2.2.2.2.2.2.2.2.2.2.1), r.1)) (some (((0 : Int), (0 : Int), r.1.2.2.2.2.2.2.2.2.2.1, r.2, r.1.2.2.2.2.2.2.2.2.2.2.1), r.1))) fun (r : (t9) × t1) => some r))))
noncomputable abbrev EN25 (k : Nat) (sp : List (Nat × Go.PG.Spec)) : Go.PG.Env := { T := T, specs := sp, codes := codes, k := k, calm := [0, 2] }
theorem ref22_Go_eq (k : Nat) (x : (Ty.D (.pair T_api_Program (.pair (.slice T_api_Cast) (.pair (.slice T_api_Val) (.pair tI (.pair .bool T_api_Verdict))))))) : evFn (EN25 k [(19, ⟨T_api_Program, T_api_Fault, ref05_Check k⟩), (23, ⟨T_api_Program, .bool, ref03_May k⟩), (45, ⟨(.pair T_api_Program .str), tI, ref05_Fun k⟩), (63, ⟨(.pair T_proteanref22_Machine (.pair tI (.slice T_api_Val))), (.pair T_proteanref22_Machine T_api_Val), ref22_call k⟩)]) 6 Tryz.f25 [(5, ⟨[.var 15 (.d tI), .box 14 [] (.s (.p (.d T_api_Program) (.p (.d (.slice T_api_Cast)) (.p (.o tI) (.p (.d (.slice T_api_Fault)) (.p (.d tI) (.p (.d tI) (.p (.d (.slice T_api_Obj)) (.p (.d tI) (.p (.d tI) (.p (.d (.slice .str)) (.p (.d tI) (.p (.d .bool) (.p (.d T_api_Verdict) (.p (.d tI) (.d (.slice tI)))))))))))))))))], [], (some (0, [.box 14 [] (.s (.p (.d T_api_Program) (.p (.d (.slice T_api_Cast)) (.p (.o tI) (.p (.d (.slice T_api_Fault)) (.p (.d tI) (.p (.d tI) (.p (.d (.slice T_api_Obj)) (.p (.d tI) (.p (.d tI) (.p (.d (.slice .str)) (.p (.d tI) (.p (.d .bool) (.p (.d T_api_Verdict) (.p (.d tI) (.d (.slice tI)))))))))))))))))]))⟩)] (.pair T_api_Program (.pair (.slice T_api_Cast) (.pair (.slice T_api_Val) (.pair tI (.pair .bool T_api_Verdict))))) (.pair T_api_Outcome T_proteanref22_Machine) x = ref22_Go k x := by kernel_rfl
theorem ref22_Go_spec (k : Nat) : SpecOk Tryz.prog GG 25 ⟨(.pair T_api_Program (.pair (.slice T_api_Cast) (.pair (.slice T_api_Val) (.pair tI (.pair .bool T_api_Verdict))))), (.pair T_api_Outcome T_proteanref22_Machine), ref22_Go k⟩ :=
  fn_spec (envOk (E := EN25 k [(19, ⟨T_api_Program, T_api_Fault, ref05_Check k⟩), (23, ⟨T_api_Program, .bool, ref03_May k⟩), (45, ⟨(.pair T_api_Program .str), tI, ref05_Fun k⟩), (63, ⟨(.pair T_proteanref22_Machine (.pair tI (.slice T_api_Val))), (.pair T_proteanref22_Machine T_api_Val), ref22_call k⟩)]) tabOk (.cons (ref05_Check_spec k) Tryz.func19 f19_ok <| .cons (ref03_May_spec k) Tryz.func23 f23_ok <| .cons (ref05_Fun_spec k) Tryz.func45 f45_ok <| .cons (ref22_call_spec k) Tryz.func63 f63_ok <| .nil) codesOk mixedOk ggKeep) Tryz.func25 (fun x => (ref22_Go_eq k x).symm)
end
section
open Go Go.PG Go.Proofs
set_option linter.all false
set_option maxRecDepth 1000000
set_option maxHeartbeats 4000000
noncomputable def ref22_Run : (k : Nat) → (Ty.D (.pair T_api_Program (.pair (.slice T_api_Cast) (.pair (.slice T_api_Val) (.int .i64))))) → Option (Ty.D T_api_Outcome) := fun (k : Nat) (x : (T_api_Program.pair (T_api_Cast.slice.pair (T_api_Val.slice.pair (Ty.int IntKind.i64)))).D) => P.bind (ref22_Go k (x.1, x.2.1, x.2.2.1, x.2.2.2, false, false, [], [], [])) fun (r : (t9) × t1) => some r.1
theorem ref22_Run_eq (k : Nat) (x : (Ty.D (.pair T_api_Program (.pair (.slice T_api_Cast) (.pair (.slice T_api_Val) tI))))) : evFn (EN k [(25, ⟨(.pair T_api_Program (.pair (.slice T_api_Cast) (.pair (.slice T_api_Val) (.pair tI (.pair .bool T_api_Verdict))))), (.pair T_api_Outcome T_proteanref22_Machine), ref22_Go k⟩)]) 6 Tryz.f11 [] (.pair T_api_Program (.pair (.slice T_api_Cast) (.pair (.slice T_api_Val) tI))) T_api_Outcome x = ref22_Run k x := by kernel_rfl
theorem ref22_Run_spec (k : Nat) : SpecOk Tryz.prog GG 11 ⟨(.pair T_api_Program (.pair (.slice T_api_Cast) (.pair (.slice T_api_Val) tI))), T_api_Outcome, ref22_Run k⟩ :=
  fn_spec (envOk (E := EN k _) tabOk (.cons (ref22_Go_spec k) Tryz.func25 f25_ok <| .nil) codesOk mixedOk ggKeep) Tryz.func11 (fun x => (ref22_Run_eq k x).symm)
noncomputable def law26_FamilyAccepted : (k : Nat) → (Ty.D (.pair (.int .i64) (.pair (.int .i64) (.int .i64)))) → Option (Ty.D .bool) := fun (k : Nat) (x : ((Ty.int IntKind.i64).pair ((Ty.int IntKind.i64).pair (Ty.int IntKind.i64))).D) => P.bind (family_Text k (x.1, x.2.1)) fun (r : ByteArray) => P.bind (law26_fixed k ()) fun (r_1 : Bool) => P.cond (P.not r_1) (P.bind (law26_fixed k ()) fun (r : Bool) => some r) (P.cond (P.seq r (ByteArray.mk #[])) (P.bind (law26_fixed k ()) fun (r : Bool) => some r) (P.bind (ref02_Parse k r) fun (r_2 : List (t12) × Int × Int) => P.bind (ref17_Check k r_2.1) fun (r_3 : t2) => P.cond (P.not (P.ieq r_2.2.1 (0 : Int))) (some false) (P.bind (ref03_Program k r_2.1) fun (r_4 : ByteArray) => P.cond (P.not (P.seq r_4 r)) (some false) (P.cond (P.not r_3.1) (some false) (P.cond (P.not (P.ieq (P.len r_3.2.2.1) (0 : Int))) (some false) (P.bind (family_Steps k (x.1, x.2.1)) fun (r : Int) => P.bind (ref22_Run k (r_2.1, [], [], r)) fun (r_5 : t9) => P.cond (P.not (P.ieq r_5.1 (0 : Int))) (some false) (P.cond (P.not (P.ieq r_5.2.2.2.2 r)) (some false) (P.bind (family_Value k (x.1, x.2.1)) fun (r_6 : Int × Int) => P.cond (P.not (P.and (P.ieq r_5.2.2.2.1.1 r_6.1) (P.ieq r_5.2.2.2.1.2 r_6.2))) (some false) (P.cond (P.ilt x.2.2 (0 : Int)) (some true) (P.cond (P.ile r x.2.2) (some true) (P.bind (ref22_Run k (r_2.1, [], [], x.2.2)) fun (r : t9) => P.cond (P.ieq r.1 (1 : Int)) (some (P.ieq r.2.2.2.2 x.2.2)) (some false))))))))))))
theorem law26_FamilyAccepted_eq (k : Nat) (x : (Ty.D (.pair tI (.pair tI tI)))) : evFn (EN k [(5, ⟨(.pair tI tI), .str, family_Text k⟩), (6, ⟨.unit, .bool, law26_fixed k⟩), (7, ⟨.str, (.pair T_api_Program T_api_Fault), ref02_Parse k⟩), (8, ⟨T_api_Program, T_api_Verdict, ref17_Check k⟩), (9, ⟨T_api_Program, .str, ref03_Program k⟩), (10, ⟨(.pair tI tI), tI, family_Steps k⟩), (11, ⟨(.pair T_api_Program (.pair (.slice T_api_Cast) (.pair (.slice T_api_Val) tI))), T_api_Outcome, ref22_Run k⟩), (12, ⟨(.pair tI tI), T_api_Val, family_Value k⟩)]) 6 Tryz.f3 [] (.pair tI (.pair tI tI)) .bool x = law26_FamilyAccepted k x := by kernel_rfl
theorem law26_FamilyAccepted_spec (k : Nat) : SpecOk Tryz.prog GG 3 ⟨(.pair tI (.pair tI tI)), .bool, law26_FamilyAccepted k⟩ :=
  fn_spec (envOk (E := EN k _) tabOk (.cons (family_Text_spec k) Tryz.func5 f5_ok <| .cons (law26_fixed_spec k) Tryz.func6 f6_ok <| .cons (ref02_Parse_spec k) Tryz.func7 f7_ok <| .cons (ref17_Check_spec k) Tryz.func8 f8_ok <| .cons (ref03_Program_spec k) Tryz.func9 f9_ok <| .cons (family_Steps_spec k) Tryz.func10 f10_ok <| .cons (ref22_Run_spec k) Tryz.func11 f11_ok <| .cons (family_Value_spec k) Tryz.func12 f12_ok <| .nil) codesOk mixedOk ggKeep) Tryz.func3 (fun x => (law26_FamilyAccepted_eq k x).symm)
end
section
open Go Go.PG Go.PL
set_option linter.all false
set_option maxRecDepth 1000000
namespace Go.PL.Fa
theorem fixed26 : law26_fixed K () = some true := by kernel_rfl
def InF (k n : Int) : Prop := 0 ≤ k ∧ k ≤ 4 ∧ 1 ≤ n ∧ n ≤ 20
theorem in_nat {k n : Int} (h : InF k n) : ∃ a b : Nat, a < 5 ∧ b < 20 ∧ k = (a : Int) ∧ n = ((b + 1 : Nat) : Int) :=
 ⟨k.toNat, n.toNat - 1, by have := h.1; have := h.2.1; omega, by have := h.2.2.1; have := h.2.2.2; omega, by have := h.1; omega, by have := h.2.2.1; omega⟩
theorem of_out {k n : Int} (h : ¬ InF k n) : family_of K (k, n) = some (([], (0, 0), 0), false) := by
 unfold family_of
 try dsimp only
 rw [P.ilt_def k, P.ile_def, P.ilt_def n, P.ilt_def 20]
 by_cases a : k < 0
 ·rw [decide_eq_true a, cond_true]
 ·rw [decide_eq_false a, cond_false]
  by_cases b : 5 ≤ k
  ·rw [decide_eq_true b, cond_true]
  ·rw [decide_eq_false b, cond_false]
   by_cases c : n < 1
   ·rw [decide_eq_true c, cond_true]
   ·rw [decide_eq_false c, cond_false]
    by_cases d : 20 < n
    ·rw [decide_eq_true d, cond_true]
    ·exact absurd ⟨by omega, by omega, by omega, by omega⟩ h
theorem text_out {k n : Int} (h : ¬ InF k n) : family_Text K (k, n) = some ⟨#[]⟩ := by
 unfold family_Text
 try dsimp only
 rw [of_out h]
 rfl
end Go.PL.Fa
end
section
open Go Go.PG Go.PL
set_option linter.all false
namespace Go.PL.Fa
abbrev Tn := Ty.D T_proteanref22_Turn
def wf (t : Tn) (f : Int) : Tn := ((t.1.1, t.1.2.1, t.1.2.2.1, t.1.2.2.2.1, f, t.1.2.2.2.2.2), t.2)
def fu (t : Tn) : Int := t.1.2.2.2.2.1
def sp (t : Tn) : Int := t.1.2.2.2.2.2.2.2.2.2.2.1
def en (t : Tn) : Int := t.1.2.2.2.2.2.2.2.1
def wa (t : Tn) : Bool := t.1.2.2.2.2.2.2.2.2.2.2.2.1
theorem mp_bind {α β γ : Type} (g : β → γ) (x : Option α) (h : α → Option β) : P.map g (P.bind x h) = P.bind x fun a => P.map g (h a) := by cases x <;> rfl
theorem mp_some {β γ : Type} (g : β → γ) (x : β) : P.map g (some x) = some (g x) := rfl
theorem bd_some {α : Type} (x : Option α) : (P.bind x fun r => some r) = x := by cases x <;> rfl
theorem mp_def {β γ : Type} (g : β → γ) (x : Option β) : P.map g x = P.bind x fun a => some (g a) := by cases x <;> rfl
theorem bd_bd {α β γ : Type} (x : Option α) (f : α → Option β) (g : β → Option γ) : P.bind (P.bind x f) g = P.bind x fun a => P.bind (f a) g := by cases x <;> rfl
theorem bd_cd {β γ : Type} (b : Bool) (x y : Option β) (g : β → Option γ) : P.bind (P.cond b x y) g = P.cond b (P.bind x g) (P.bind y g) := by cases b <;> rfl
theorem bd_ei {α β γ δ : Type} (a : α → Option γ) (b : β → Option γ) (s : α ⊕ β) (g : γ → Option δ) : P.bind (P.either a b s) g = P.either (fun z => P.bind (a z) g) (fun z => P.bind (b z) g) s := by cases s <;> rfl
theorem bd_ex {α β : Type} {x : Option α} {f : α → Option β} {r : β} (h : P.bind x f = some r) : ∃ a, x = some a ∧ f a = some r := by
 cases x with
 | none => cases h
 | some a => exact ⟨a, rfl, h⟩
theorem cd_or {β : Type} {b : Bool} {x y : Option β} {r : β} (h : P.cond b x y = some r) : (b = true ∧ x = some r) ∨ (b = false ∧ y = some r) := by
 cases b with
 | true => exact .inl ⟨rfl, h⟩
 | false => exact .inr ⟨rfl, h⟩
theorem val_eq {t u : Tn} (h1 : u.1.1 = t.1.1) (h2 : u.2.1 = t.2.1) (o : Ty.D T_api_Operand) : ref22_val K (u, o) = ref22_val K (t, o) := by
 unfold ref22_val
 dsimp only
 rw [h1, h2]
theorem vals_eq {t u : Tn} (h1 : u.1.1 = t.1.1) (h2 : u.2.1 = t.2.1) (l : List (Ty.D T_api_Operand)) : ref22_vals K (u, l) = ref22_vals K (t, l) := by
 unfold ref22_vals
 dsimp only
 simp only [val_eq h1 h2]
theorem set_wf (t : Tn) (f : Int) (n : ByteArray) (v : Int × Int) : ref22_set K (wf t f, n, v) = P.map (fun r => wf r f) (ref22_set K (t, n, v)) := by
 unfold ref22_set
 dsimp only
 rw [mp_bind]
 rfl
theorem stop_wf (t : Tn) (f a b : Int) : ref22_stop K (wf t f, a, b) = P.map (fun r => wf r f) (ref22_stop K (t, a, b)) := rfl
theorem on_wf (t : Tn) (f : Int) : ref22_on K (wf t f) = ref22_on K t := rfl
theorem arith_wf (t s : Tn) (f : Int) (x : Ty.D slfB) (v : List (Int × Int)) : ref22_arith K (wf t f, x, v, wf s f) = P.map (fun r => wf r f) (ref22_arith K (t, x, v, s)) := by
 unfold ref22_arith ref22_set
 simp only [mp_def, bd_bd, bd_cd, bind_some, bind_none]
 rfl
theorem it_left {τ α β : Type} {f : τ → Option (τ ⊕ (α ⊕ β))} (hf : ∀ y r, f y ≠ some (.inr (.inr r))) : ∀ (k : Nat) (x : τ) (r : β), P.iter k f x ≠ some (.inr r) := by
 intro k
 induction k with
 | zero => intro x r h; cases h
 | succ k ih =>
  intro x r h
  rw [iter_succ] at h
  cases e : f x with
  | none => rw [e] at h; cases h
  | some s =>
   rw [e] at h
   cases s with
   | inl y => exact ih y r h
   | inr q =>
    simp only at h
    injection h with h
    subst h
    exact hf x r e
theorem bd_left {α : Type} {it : Option (α ⊕ Tn)} {g g' : α → Option Tn} {h h' : Tn → Option Tn} (hit : ∀ r, it ≠ some (.inr r)) (hg : ∀ z, g z = g' z) : P.bind it (P.either g h) = P.bind it (fun s => P.either g' h' s) := by
 cases it with
 | none => rfl
 | some s => cases s with
  | inl z => exact hg z
  | inr r => exact absurd rfl (hit r)
theorem object_wf (t s : Tn) (f a b : Int) (x : Ty.D slfB) (v : List (Int × Int)) : ref22_object K (wf t f, a, b, x, v, wf s f) = P.map (fun r => wf r f) (ref22_object K (t, a, b, x, v, s)) := by
 unfold ref22_object ref22_set
 simp only [mp_def, bd_bd, bd_cd, bind_some, bind_none, bd_ei]
 generalize P.inb (P.len x.2.2.2.2.2.1) (P.len v) = b1
 generalize P.not (P.ieq (P.get v (P.len x.2.2.2.2.2.1) (0, 0)).1 0) = b2
 generalize P.not (P.ieq (P.get v (P.len x.2.2.2.2.2.1) (0, 0)).1 4) = b3
 have hit : ∀ (q : Int × List (ByteArray × Int × Int) × Int × Int) (r : Tn), P.iter (ρ := (List (ByteArray × Int × Int) × Int × Int) ⊕ Tn) K (fun (y : Int × List (ByteArray × Int × Int) × Int × Int) => P.cond (P.ilt y.1 (P.len x.2.2.2.2.2.1)) (P.cond (P.inb y.1 (P.len x.2.2.2.2.2.1)) (P.cond (P.inb y.1 (P.len v)) (P.bind (ref19_With K (y.2.1, P.get x.2.2.2.2.2.1 y.1 (ByteArray.mk #[]), P.get v y.1 (0, 0))) fun r => some (Sum.inl (P.wrap .i64 (P.add y.1 1), r, y.2.2))) none) none) (some (Sum.inr (Sum.inl y.2)))) q ≠ some (.inr r) := by
  intro q r
  refine it_left (fun y r h => ?_) _ _ _
  rcases cd_or h with ⟨_, h⟩ | ⟨_, h⟩
  ·rcases cd_or h with ⟨_, h⟩ | ⟨_, h⟩
   ·rcases cd_or h with ⟨_, h⟩ | ⟨_, h⟩
    ·obtain ⟨_, _, h⟩ := bd_ex h
     cases h
    ·cases h
   ·cases h
  ·cases h
 cases b1 with
 | false => rfl
 | true =>
  cases b2 with
  | false => exact bd_left (hit _) (fun z => rfl)
  | true =>
   cases b3 with
   | true => rfl
   | false => exact bd_left (hit _) (fun z => rfl)
theorem incoming_wf (t : Tn) (f : Int) (x : Ty.D slfB) : ref22_incoming K (wf t f, x) = P.map (fun r => wf r f) (ref22_incoming K (t, x)) := by
 unfold ref22_incoming ref22_set
 simp only [mp_def, bd_bd, bd_cd, bind_some, bind_none]
 rfl
end Go.PL.Fa
end
section
open Go Go.PG Go.PL
set_option linter.all false
namespace Go.PL.Fa
def Keep (t r : Tn) : Prop := r.1.2.1 = t.1.2.1 ∧ wa r = wa t ∧ fu r = fu t ∧ sp r = sp t
theorem Keep.refl (t : Tn) : Keep t t := ⟨rfl, rfl, rfl, rfl⟩
theorem Keep.of {t r : Tn} (h : r.1 = t.1) : Keep t r := by unfold Keep wa fu sp; rw [h]; exact ⟨rfl, rfl, rfl, rfl⟩
theorem set_keep {t r : Tn} {n : ByteArray} {v : Int × Int} (h : ref22_set K (t, n, v) = some r) : Keep t r := by
 unfold ref22_set at h
 obtain ⟨a, _, h⟩ := bd_ex h
 injection h with h
 subst h
 exact Keep.refl _
theorem stop_keep {t r : Tn} {a b : Int} (h : ref22_stop K (t, a, b) = some r) : Keep t r := by
 unfold ref22_stop at h
 injection h with h
 subst h
 exact Keep.refl _
section
attribute [local irreducible] P.bind P.cond P.either P.iter
theorem arith_keep {t s r : Tn} {x : Ty.D slfB} {v : List (Int × Int)} (hs : Keep t s) (h : ref22_arith K (t, x, v, s) = some r) : Keep t r := by
 unfold ref22_arith at h
 dsimp only at h
 repeat' (first
  | (have q := cd_or h; clear h; rcases q with ⟨_, h⟩ | ⟨_, h⟩)
  | (have q := bd_ex h; clear h; obtain ⟨_, hq, h⟩ := q))
 all_goals first
  | (injection h with h; subst h; exact hs)
  | (injection h with h; subst h; exact set_keep hq)
  | (cases h; done)
theorem incoming_keep {t r : Tn} {x : Ty.D slfB} (h : ref22_incoming K (t, x) = some r) : Keep t r := by
 unfold ref22_incoming at h
 dsimp only at h
 repeat' (first
  | (have q := cd_or h; clear h; rcases q with ⟨_, h⟩ | ⟨_, h⟩)
  | (have q := bd_ex h; clear h; obtain ⟨_, hq, h⟩ := q))
 all_goals first
  | (injection h with h; subst h; exact set_keep hq)
  | (injection h with h; subst h; obtain ⟨k1, k2, k3, k4⟩ := set_keep hq; exact ⟨k1, k2, k3, k4⟩)
  | (cases h; done)
theorem object_keep {t s r : Tn} {a b : Int} {x : Ty.D slfB} {v : List (Int × Int)} (hs : Keep t s) (h : ref22_object K (t, a, b, x, v, s) = some r) : Keep t r := by
 have hit : ∀ (q : Int × List (ByteArray × Int × Int) × Int × Int) (r : Tn), P.iter (ρ := (List (ByteArray × Int × Int) × Int × Int) ⊕ Tn) K (fun (y : Int × List (ByteArray × Int × Int) × Int × Int) => P.cond (P.ilt y.1 (P.len x.2.2.2.2.2.1)) (P.cond (P.inb y.1 (P.len x.2.2.2.2.2.1)) (P.cond (P.inb y.1 (P.len v)) (P.bind (ref19_With K (y.2.1, P.get x.2.2.2.2.2.1 y.1 (ByteArray.mk #[]), P.get v y.1 (0, 0))) fun r => some (Sum.inl (P.wrap .i64 (P.add y.1 1), r, y.2.2))) none) none) (some (Sum.inr (Sum.inl y.2)))) q ≠ some (.inr r) := by
  intro q r
  refine it_left (fun y r h => ?_) _ _ _
  rcases cd_or h with ⟨_, h⟩ | ⟨_, h⟩
  ·rcases cd_or h with ⟨_, h⟩ | ⟨_, h⟩
   ·rcases cd_or h with ⟨_, h⟩ | ⟨_, h⟩
    ·obtain ⟨_, _, h⟩ := bd_ex h
     cases h
    ·cases h
   ·cases h
  ·cases h
 unfold ref22_object at h
 dsimp only at h
 have fin : ∀ (z : List (ByteArray × Int × Int) × Int × Int), (P.bind (ref19_New K (t.1.2.2.2.2.2.2.1, z)) fun r => P.cond (P.not r.2.2) (some s) (P.cond (P.inb a (P.len t.1.1)) (P.bind (ref04_Site K ((P.get t.1.1 a (ByteArray.mk #[], [], [])).2.2, b)) fun r_1 => P.bind (ref21_Fresh K (t.2.1, r_1.1, r.2.1.2)) fun r_2 => P.bind (ref22_set K (((t.1.1, t.1.2.1, t.1.2.2.1, t.1.2.2.2.1, t.1.2.2.2.2.1, t.1.2.2.2.2.2.1, r.1, t.1.2.2.2.2.2.2.2), r_2, t.2.2), x.2.1, r.2.1)) fun r => some r) none)) = some r → Keep t r := by
  intro z h
  obtain ⟨_, _, h⟩ := bd_ex h
  rcases cd_or h with ⟨_, h⟩ | ⟨_, h⟩
  ·injection h with h; subst h; exact hs
  ·rcases cd_or h with ⟨_, h⟩ | ⟨_, h⟩
   ·obtain ⟨_, _, h⟩ := bd_ex h
    obtain ⟨_, _, h⟩ := bd_ex h
    obtain ⟨_, hq, h⟩ := bd_ex h
    injection h with h; subst h
    obtain ⟨k1, k2, k3, k4⟩ := set_keep hq
    exact ⟨k1, k2, k3, k4⟩
   ·cases h
 have brk : ∀ {it : Option ((List (ByteArray × Int × Int) × Int × Int) ⊕ Tn)} {g : List (ByteArray × Int × Int) × Int × Int → Option Tn} {g' : Tn → Option Tn}, (∀ r, it ≠ some (.inr r)) → P.bind it (P.either g g') = some r → ∃ z, g z = some r := by
  intro it g g' hn h
  obtain ⟨q, hq, h⟩ := bd_ex h
  cases q with
  | inl z => rw [either_inl] at h; exact ⟨z, h⟩
  | inr r => exact absurd hq (hn r)
 rcases cd_or h with ⟨_, h⟩ | ⟨_, h⟩
 ·rcases cd_or h with ⟨_, h⟩ | ⟨_, h⟩
  ·rcases cd_or h with ⟨_, h⟩ | ⟨_, h⟩
   ·injection h with h; subst h; exact hs
   ·obtain ⟨z, h⟩ := brk (hit _) h
    exact fin z h
  ·obtain ⟨z, h⟩ := brk (hit _) h
   exact fin z h
 ·cases h
end
def adv (t : Tn) : Tn := ((t.1.1, t.1.2.1, t.1.2.2.1, t.1.2.2.2.1, P.wrap .i64 (P.sub (fu t) 1), t.1.2.2.2.2.2.1, t.1.2.2.2.2.2.2.1, t.1.2.2.2.2.2.2.2.1, t.1.2.2.2.2.2.2.2.2.1, t.1.2.2.2.2.2.2.2.2.2.1, P.wrap .i64 (P.add (sp t) 1), t.1.2.2.2.2.2.2.2.2.2.2.2), t.2)
theorem it_nil {ρ : Type} (f : Int → Option (Int ⊕ (Unit ⊕ ρ))) (h : f 0 = some (.inr (.inl ()))) : P.iter K f 0 = some (.inl ()) := by
 show P.iter (18446744073709551615 + 1) f 0 = _
 rw [iter_succ, h]
theorem begin_pos (t : Tn) (fn m : Int) (x : Ty.D slfB) (hL : t.1.2.1 = []) (hW : wa t = false) : ∃ p : Option Unit, ∀ f : Int, 0 < f → ref22_begin K (wf t f, fn, m, x) = P.bind p fun _ => some (adv (wf t f)) := by
 obtain ⟨⟨a1, a2, a3, a4, a5, a6, a7, a8, a9, a10, a11, a12, a13, a14, a15⟩, b1, b2⟩ := t
 have hL : a2 = [] := hL
 have hW : a12 = false := hW
 subst hL; subst hW
 refine ⟨P.bind (P.cond (P.ieq x.1 2) (P.map (fun _ => ()) (ref21_Var K (b1, x.2.2.1))) (P.cond (P.ieq x.1 6) (P.map (fun _ => ()) (ref21_Var K (b1, x.2.2.1))) (some ()))) fun _ => P.bind (P.cond (P.ieq x.1 3) (P.map (fun _ => ()) (ref21_Var K (b1, x.2.1))) (some ())) fun _ => P.map (fun _ => ()) (ref22_vals K (((a1, [], a3, a4, a5, a6, a7, a8, a9, a10, a11, false, a13, a14, a15), b1, b2), x.2.2.2.2.1)), fun f hf => ?_⟩
 have hle : P.ile f 0 = false := by rw [P.ile_def, decide_eq_false_iff_not]; omega
 unfold ref22_begin
 simp only [wf, hle, cond_false]
 have hv : ∀ (u : Tn), u.1.1 = a1 → u.2.1 = b1 → ref22_vals K (u, x.2.2.2.2.1) = ref22_vals K (((a1, [], a3, a4, a5, a6, a7, a8, a9, a10, a11, false, a13, a14, a15), b1, b2), x.2.2.2.2.1) := fun u h1 h2 => vals_eq h1 h2 _
 rw [hv _ rfl rfl]
 generalize ref22_vals K (((a1, [], a3, a4, a5, a6, a7, a8, a9, a10, a11, false, a13, a14, a15), b1, b2), x.2.2.2.2.1) = V
 generalize ref21_Var K (b1, x.2.2.1) = Y
 generalize ref21_Var K (b1, x.2.1) = X
 cases P.ieq x.1 2 <;> cases P.ieq x.1 6 <;> cases P.ieq x.1 3 <;> cases Y <;> cases X <;> cases V <;> first
  | rfl
  | (simp only [cond_true, cond_false, bind_some, bind_none]; rw [it_nil _ rfl]; rfl)
theorem begin_zero (t : Tn) (fn m : Int) (x : Ty.D slfB) : ∃ r, ref22_begin K (wf t 0, fn, m, x) = some r ∧ en r = 1 ∧ sp r = sp t := ⟨_, rfl, rfl, rfl⟩
end Go.PL.Fa
end
section
open Go Go.PG Go.PL
set_option linter.all false
namespace Go.PL.Fa
structure Inv (N : Int) (t : Tn) : Prop where
 L : t.1.2.1 = []
 W : wa t = false
 sum : fu t + sp t = N
 f0 : 0 ≤ fu t
 f1 : fu t ≤ 1000
 s0 : 0 ≤ sp t
 s1 : sp t ≤ 1000
theorem Inv.keep {N : Int} {t r : Tn} (h : Inv N t) (k : Keep t r) : Inv N r := by
 obtain ⟨k1, k2, k3, k4⟩ := k
 exact ⟨k1.trans h.L, k2.trans h.W, by rw [k3, k4]; exact h.sum, by rw [k3]; exact h.f0, by rw [k3]; exact h.f1, by rw [k4]; exact h.s0, by rw [k4]; exact h.s1⟩
def Res (N δ : Int) (r : Tn) (o : Option Tn) : Prop := ∃ r', o = some r' ∧ ((Inv N r ∧ δ ≤ fu r ∧ r' = wf r (fu r - δ)) ∨ (en r' = 1 ∧ sp r' = N - δ))
variable {N δ : Int}
theorem res_map {t r : Tn} {g : Option Tn} (hI : Inv N t) (hδ : δ ≤ fu t) (h : g = some r) (k : Keep t r) : Res N δ r (P.map (fun r => wf r (fu t - δ)) g) := by
 subst h
 refine ⟨wf r (fu t - δ), rfl, .inl ⟨hI.keep k, by rw [k.2.2.1]; exact hδ, by rw [k.2.2.1]⟩⟩
theorem res_some {t r : Tn} (hI : Inv N t) (hδ : δ ≤ fu t) (k : Keep t r) : Res N δ r (some (wf r (fu t - δ))) := res_map hI hδ (g := some r) rfl k
theorem res_out {r r' : Tn} (h : en r' = 1) (h2 : sp r' = N - δ) : Res N δ r (some r') := ⟨r', rfl, .inr ⟨h, h2⟩⟩
theorem res_ct {r : Tn} {b : Bool} {x y : Option Tn} (hb : b = true) (h : Res N δ r x) : Res N δ r (P.cond b x y) := by subst hb; exact h
theorem res_cf {r : Tn} {b : Bool} {x y : Option Tn} (hb : b = false) (h : Res N δ r y) : Res N δ r (P.cond b x y) := by subst hb; exact h
theorem on_out {r : Tn} (h : en r = 1) : ref22_on K r = some false := by
 unfold ref22_on
 have : P.ilt (en r) 0 = false := by rw [h]; rfl
 show P.cond (P.ilt (en r) 0) _ _ = _
 rw [this, cond_false]
theorem wf_F (t : Tn) (f : Int) : (wf t f).2.1 = t.2.1 := rfl
theorem wf_S (t : Tn) (f : Int) : (wf t f).1.2.2.2.2.2.2.1 = t.1.2.2.2.2.2.2.1 := rfl
theorem wf_P (t : Tn) (f : Int) : (wf t f).1.1 = t.1.1 := rfl
theorem wf_Pa (t : Tn) (f : Int) : (wf t f).1.2.2.1 = t.1.2.2.1 := rfl
theorem wrap_in {x : Int} (h0 : -9223372036854775808 ≤ x) (h1 : x < 9223372036854775808) : P.wrap .i64 x = x := by rw [P.wrap_def]; exact P.wrap_fit h0 h1
theorem adv_fu {t : Tn} (hI : Inv N t) : fu (adv t) = fu t - 1 := by
 have := hI.f0; have := hI.f1
 exact wrap_in (x := fu t - 1) (by omega) (by omega)
theorem adv_sp {t : Tn} (hI : Inv N t) : sp (adv t) = sp t + 1 := by
 have := hI.s0; have := hI.s1
 exact wrap_in (x := sp t + 1) (by omega) (by omega)
theorem adv_inv (hN : N ≤ 1000) {t : Tn} (hI : Inv N t) (h : 0 < fu t) : Inv N (adv t) := by
 have h1 := adv_fu hI
 have h2 := adv_sp hI
 have := hI.sum; have := hI.f0; have := hI.f1; have := hI.s0; have := hI.s1
 exact ⟨hI.L, hI.W, by omega, by omega, by omega, by omega, by omega⟩
theorem adv_wf {t : Tn} (hI : Inv N t) {f : Int} (h0 : 0 < f) (h1 : f ≤ 1000) : adv (wf t f) = wf (adv t) (f - 1) := by
 have e : P.wrap .i64 (P.sub f 1) = f - 1 := wrap_in (x := f - 1) (by omega) (by omega)
 show (((_, _, _, _, P.wrap .i64 (P.sub f 1), _), _) : Tn) = _
 rw [e]
 rfl
noncomputable def okN : Nat → Tree → Bool
 | 0, _ => false
 | n + 1, x => match P.ieq (P.tun x).1 5, P.ieq (P.tun x).1 6 with
  | false, false => (P.tun x).2.2.2.2.2.2.1.all (okN n) && (P.tun x).2.2.2.2.2.2.2.all (okN n)
  | _, _ => false
theorem okN_succ {n : Nat} {x : Tree} (h : okN n x = true) : ∃ m, n = m + 1 ∧ P.ieq (P.tun x).1 5 = false ∧ P.ieq (P.tun x).1 6 = false ∧ (∀ y, y ∈ (P.tun x).2.2.2.2.2.2.1 → okN m y = true) ∧ (∀ y, y ∈ (P.tun x).2.2.2.2.2.2.2 → okN m y = true) := by
 cases n with
 | zero => cases h
 | succ m =>
  simp only [okN] at h
  split at h
  ·rename_i h1 h2
   rw [Bool.and_eq_true, List.all_eq_true, List.all_eq_true] at h
   exact ⟨m, rfl, h1, h2, h.1, h.2⟩
  ·cases h
def SS (N δ : Int) (d : Nat) : Prop := ∀ (n : Nat) (x : Tree), okN n x = true → ∀ (t : Tn) (fn m : Int) (r : Tn), Inv N t → δ ≤ fu t → (rec144 K d).2.1 (t, fn, m, P.tun x) = some r → Res N δ r ((rec144 K d).2.1 (wf t (fu t - δ), fn, m, P.tun x))
def BB (N δ : Int) (d : Nat) : Prop := ∀ (n : Nat) (l : List Tree), (∀ x, x ∈ l → okN n x = true) → ∀ (t : Tn) (fn m : Int) (r : Tn), Inv N t → δ ≤ fu t → (rec144 K d).2.2.1 (t, fn, l, m) = some r → Res N δ r ((rec144 K d).2.2.1 (wf t (fu t - δ), fn, l, m))
theorem rec_stmt (d : Nat) : (rec144 K (d + 1)).2.1 = ref22_stmt_ (fun _ => (rec144 K d).1) (fun _ => (rec144 K d).2.1) (fun _ => (rec144 K d).2.2.1) (fun _ => (rec144 K d).2.2.2) K := rfl
theorem rec_block (d : Nat) : (rec144 K (d + 1)).2.2.1 = ref22_block_ (fun _ => (rec144 K d).1) (fun _ => (rec144 K d).2.1) (fun _ => (rec144 K d).2.2.1) (fun _ => (rec144 K d).2.2.2) K := rfl
section
attribute [local irreducible] P.bind P.cond P.either P.iter
theorem stmt_step (hN : N ≤ 1000) (h0 : 0 < δ) {d : Nat} (is : SS N δ d) (ib : BB N δ d) : SS N δ (d + 1) := by
 intro n x hx t fn m r hI hδ h
 obtain ⟨n', rfl, q5, q6, hth, hel⟩ := okN_succ hx
 rw [rec_stmt] at h ⊢
 unfold ref22_stmt_ at h ⊢
 dsimp only at h ⊢
 obtain ⟨p, hp⟩ := begin_pos t fn m (P.tun x) hI.L hI.W
 have hpos : 0 < fu t := by omega
 have hbig : ref22_begin K (t, fn, m, P.tun x) = P.bind p fun _ => some (adv t) := hp (fu t) hpos
 obtain ⟨t1, e1, h⟩ := bd_ex h
 rw [hbig] at e1
 obtain ⟨u, hu, e1⟩ := bd_ex e1
 injection e1 with e1
 subst e1
 by_cases hf : fu t - δ = 0
 ·obtain ⟨r', b1, b2, b3⟩ := begin_zero t fn m (P.tun x)
  rw [hf, b1, bind_some, on_out b2, bind_some, show P.not false = true from rfl, cond_true]
  have := hI.sum
  exact res_out b2 (by rw [b3]; omega)
 have hfp : 0 < fu t - δ := by omega
 have hf1 := hI.f1
 rw [hp _ hfp, hu, bind_some, bind_some, adv_wf hI hfp (by omega)]
 have hI1 := adv_inv hN hI hpos
 have hfu := adv_fu hI
 have hδ1 : δ ≤ fu (adv t) := by omega
 rw [show fu t - δ - 1 = fu (adv t) - δ from by omega]
 generalize adv t = t1 at h hI1 hδ1
 generalize hg : fu t1 - δ = g
 obtain ⟨o, ho, h⟩ := bd_ex h
 rw [on_wf, ho, bind_some]
 cases o with
 | false =>
  rw [show P.not false = true from rfl, cond_true] at h ⊢
  injection h with h
  subst h; subst hg
  exact res_some hI1 hδ1 (Keep.refl _)
 | true =>
 rw [show P.not true = false from rfl, cond_false] at h ⊢
 obtain ⟨r2, hs, h⟩ := bd_ex h
 obtain ⟨v, hv, h⟩ := bd_ex h
 rw [stop_wf, hs, mp_some, bind_some, vals_eq (t := t1) (u := wf t1 g) rfl rfl, hv, bind_some]
 have ks := stop_keep hs
 simp only [wf_F, wf_S, wf_P, wf_Pa] 
 have tail : ∀ (R : Tn), P.cond (P.inb 0 (P.len v)) (P.cond (P.ieq (P.get v 0 (0, 0)).2 0) (some t1) (P.bind ((rec144 K d).2.2.1 (t1, fn, (P.tun x).2.2.2.2.2.2.1, P.wrap .i64 (P.add m 1))) fun r => P.cond (P.ieq (P.tun x).1 9) (some r) (P.bind (ref22_on K r) fun r_4 => P.cond (P.not r_4) (some r) (P.bind ((rec144 K d).2.1 (r, fn, m, P.tun x)) fun r => some r)))) none = some R →
   Res N δ R (P.cond (P.inb 0 (P.len v)) (P.cond (P.ieq (P.get v 0 (0, 0)).2 0) (some (wf t1 g)) (P.bind ((rec144 K d).2.2.1 (wf t1 g, fn, (P.tun x).2.2.2.2.2.2.1, P.wrap .i64 (P.add m 1))) fun r => P.cond (P.ieq (P.tun x).1 9) (some r) (P.bind (ref22_on K r) fun r_4 => P.cond (P.not r_4) (some r) (P.bind ((rec144 K d).2.1 (r, fn, m, P.tun x)) fun r => some r)))) none) := by
  intro R h
  rcases cd_or h with ⟨c, h⟩ | ⟨c, h⟩
  ·rw [c, cond_true]
   rcases cd_or h with ⟨c, h⟩ | ⟨c, h⟩
   ·rw [c, cond_true]
    injection h with h; subst h; subst hg
    exact res_some hI1 hδ1 (Keep.refl _)
   ·rw [c, cond_false]
    obtain ⟨t2, hb, h⟩ := bd_ex h
    have hr := ib n' _ hth t1 fn _ t2 hI1 hδ1 hb
    rw [hg] at hr
    obtain ⟨r', e', hr⟩ := hr
    rw [e', bind_some]
    rcases hr with ⟨hI2, hδ2, rfl⟩ | ⟨o1, o2⟩
    ·rcases cd_or h with ⟨c, h⟩ | ⟨c, h⟩
     ·rw [c, cond_true]
      injection h with h; subst h
      exact res_some hI2 hδ2 (Keep.refl _)
     ·rw [c, cond_false]
      obtain ⟨o, ho, h⟩ := bd_ex h
      rw [on_wf, ho, bind_some]
      rcases cd_or h with ⟨c, h⟩ | ⟨c, h⟩
      ·rw [c, cond_true]
       injection h with h; subst h
       exact res_some hI2 hδ2 (Keep.refl _)
      ·rw [c, cond_false]
       rw [bd_some] at h ⊢
       exact is _ x hx t2 fn m R hI2 hδ2 h
    ·cases hc : P.ieq (P.tun x).1 9 with
     | true => rw [cond_true]; exact res_out o1 o2
     | false =>
      rw [cond_false, on_out o1, bind_some, show P.not false = true from rfl, cond_true]
      exact res_out o1 o2
  ·cases h
 have stuck : Res N δ r2 (some (wf r2 g)) := by subst hg; exact res_some hI1 hδ1 ks
 rcases cd_or h with ⟨c, h⟩ | ⟨c, h⟩
 ·rw [c, cond_true]
  rcases cd_or h with ⟨c, h⟩ | ⟨c, h⟩
  ·rw [c, cond_true]
   rw [bd_some] at h ⊢
   rw [set_wf]; subst hg
   exact res_map hI1 hδ1 h (set_keep h)
  ·cases h
 rw [c, cond_false]
 rcases cd_or h with ⟨c, h⟩ | ⟨c, h⟩
 ·rw [c, cond_true]
  rw [bd_some] at h ⊢
  rw [arith_wf]; subst hg
  exact res_map hI1 hδ1 h (arith_keep ks h)
 rw [c, cond_false]
 rcases cd_or h with ⟨c, h⟩ | ⟨c, h⟩
 ·rw [c, cond_true]
  obtain ⟨a, ha, h⟩ := bd_ex h
  rw [ha, bind_some]
  obtain ⟨b, hb, h⟩ := bd_ex h
  rw [hb, bind_some]
  rcases cd_or h with ⟨c, h⟩ | ⟨c, h⟩
  ·rw [c, cond_true]
   injection h with h; subst h
   exact stuck
  ·rw [c, cond_false]
   rw [bd_some] at h ⊢
   rw [set_wf]; subst hg
   exact res_map hI1 hδ1 h (set_keep h)
 rw [c, cond_false]
 rcases cd_or h with ⟨c, h⟩ | ⟨c, h⟩
 ·rw [c, cond_true]
  obtain ⟨a, ha, h⟩ := bd_ex h
  rw [ha, bind_some]
  rcases cd_or h with ⟨c, h⟩ | ⟨c, h⟩
  ·rw [c, cond_true]
   obtain ⟨b, hb, h⟩ := bd_ex h
   rw [hb, bind_some]
   rcases cd_or h with ⟨c, h⟩ | ⟨c, h⟩
   ·rw [c, cond_true]
    injection h with h; subst h
    exact stuck
   ·rw [c, cond_false]
    injection h with h; subst h; subst hg
    exact res_some hI1 hδ1 ⟨rfl, rfl, rfl, rfl⟩
  ·cases h
 rw [c, cond_false]
 rcases cd_or h with ⟨c, h⟩ | ⟨c, h⟩
 ·rw [c, cond_true]
  rw [bd_some] at h ⊢
  rw [object_wf]; subst hg
  exact res_map hI1 hδ1 h (object_keep ks h)
 rw [c, cond_false]
 rcases cd_or h with ⟨c, h⟩ | ⟨c, h⟩
 ·rw [q5] at c; cases c
 rw [c, cond_false]
 rcases cd_or h with ⟨c, h⟩ | ⟨c, h⟩
 ·rw [q6] at c; cases c
 rw [c, cond_false]
 rcases cd_or h with ⟨c, h⟩ | ⟨c, h⟩
 ·rw [c, cond_true]
  rw [bd_some] at h ⊢
  rw [incoming_wf]; subst hg
  exact res_map hI1 hδ1 h (incoming_keep h)
 rw [c, cond_false]
 rcases cd_or h with ⟨c, h⟩ | ⟨c, h⟩
 ·rcases cd_or h with ⟨_, h⟩ | ⟨_, h⟩
  ·obtain ⟨_, _, h⟩ := bd_ex h
   cases h
  ·cases h
 rw [c, cond_false]
 rcases cd_or h with ⟨c, h⟩ | ⟨c, h⟩
 ·rw [c, cond_true]
  rcases cd_or h with ⟨c, h⟩ | ⟨c, h⟩
  ·rw [c, cond_true]
   injection h with h; subst h; subst hg
   exact res_some hI1 hδ1 ⟨rfl, rfl, rfl, rfl⟩
  ·cases h
 rw [c, cond_false]
 rcases cd_or h with ⟨c, h⟩ | ⟨c, h⟩
 ·refine res_ct c ?_
  rcases cd_or h with ⟨c, h⟩ | ⟨c, h⟩
  ·refine res_ct c ?_
   injection h with h; subst h
   exact stuck
  ·refine res_cf c ?_
   rcases cd_or h with ⟨c, h⟩ | ⟨c, h⟩
   ·refine res_ct c ?_
    rcases cd_or h with ⟨c2, h⟩ | ⟨c2, h⟩
    ·refine res_ct c2 ?_
     rcases cd_or h with ⟨c3, h⟩ | ⟨c3, h⟩
     ·refine res_ct c3 ?_
      obtain ⟨a, ha, h⟩ := bd_ex h
      rw [ha, bind_some]
      rw [bd_some] at h ⊢
      have := ib n' _ hel t1 fn _ r hI1 hδ1 h
      rwa [hg] at this
     ·refine res_cf c3 ?_
      exact tail r h
    ·cases h
   ·refine res_cf c ?_
    exact tail r h
 ·cases h
end
end Go.PL.Fa
end
section
open Go Go.PG Go.PL
set_option linter.all false
namespace Go.PL.Fa
variable {N δ : Int}
theorem iter_sim {f : (Int × Int × Tn) → Option ((Int × Int × Tn) ⊕ (Tn ⊕ Tn))}
  (hf : ∀ (a i : Int) (t : Tn) (s), Inv N t → δ ≤ fu t → f (a, i, t) = some s →
   (∃ z, s = .inr (.inl z) ∧ Inv N z ∧ δ ≤ fu z ∧ f (a, i, wf t (fu t - δ)) = some (.inr (.inl (wf z (fu z - δ))))) ∨
   (∃ a' i' t2, s = .inl (a', i', t2) ∧ ((Inv N t2 ∧ δ ≤ fu t2 ∧ f (a, i, wf t (fu t - δ)) = some (.inl (a', i', wf t2 (fu t2 - δ)))) ∨ (∃ r', f (a, i, wf t (fu t - δ)) = some (.inl (a', i', r')) ∧ en r' = 1 ∧ sp r' = N - δ))))
  (ho : ∀ a i r', en r' = 1 → f (a, i, r') = some (.inr (.inl r'))) :
  ∀ (k : Nat) (a i : Int) (t r : Tn), Inv N t → δ ≤ fu t → P.bind (P.iter k f (a, i, t)) (P.either (fun z => some z) fun r => some r) = some r → Res N δ r (P.bind (P.iter k f (a, i, wf t (fu t - δ))) (P.either (fun z => some z) fun r => some r)) := by
 intro k
 induction k with
 | zero => intro a i t r _ _ h; cases h
 | succ k ih =>
  intro a i t r hI hδ h
  rw [iter_succ] at h ⊢
  cases e : f (a, i, t) with
  | none => rw [e] at h; cases h
  | some s =>
   rw [e] at h
   rcases hf a i t s hI hδ e with ⟨z, rfl, h1, h2, h3⟩ | ⟨a', i', t2, rfl, ⟨h1, h2, h3⟩ | ⟨r', h1, h2, h3⟩⟩
   ·rw [h3]
    simp only at h ⊢
    have h : some z = some r := h
    injection h with h
    subst h
    exact res_some h1 h2 (Keep.refl _)
   ·rw [h3]
    exact ih a' i' t2 r h1 h2 h
   ·rw [h1]
    cases k with
    | zero => cases h
    | succ k =>
     simp only
     rw [iter_succ, ho _ _ _ h2]
     exact res_out h2 h3
theorem get_mem {l : List Tree} {i : Int} {z : Tree} (h : P.inb i (P.len l) = true) : P.get l i z ∈ l := by
 rw [P.inb_def, Bool.and_eq_true, decide_eq_true_eq, decide_eq_true_eq] at h
 have hl : i.toNat < l.length := by unfold P.len at h; omega
 rw [P.get_def, List.getD_eq_getElem?_getD, List.getElem?_eq_getElem hl]
 exact List.getElem_mem hl
theorem block_step {d : Nat} (is : SS N δ d) : BB N δ (d + 1) := by
 intro n l hl t fn m r hI hδ h
 rw [rec_block] at h ⊢
 unfold ref22_block_ at h ⊢
 refine iter_sim (fun a i t s hI hδ h => ?_) (fun a i r' h => ?_) K m 0 t r hI hδ h
 ·rcases cd_or h with ⟨c, h⟩ | ⟨c, h⟩
  ·obtain ⟨o, ho, h⟩ := bd_ex h
   have ho : ref22_on K t = some o := ho
   have ho' : ref22_on K (wf t (fu t - δ)) = some o := ho
   rcases cd_or h with ⟨c2, h⟩ | ⟨c2, h⟩
   ·rcases cd_or h with ⟨c3, h⟩ | ⟨c3, h⟩
    ·obtain ⟨t2, h2, h⟩ := bd_ex h
     obtain ⟨r', e', hr⟩ := is n _ (hl _ (get_mem c3)) t fn a t2 hI hδ h2
     rcases cd_or h with ⟨c4, h⟩ | ⟨c4, h⟩
     ·obtain ⟨b, hb, h⟩ := bd_ex h
      injection h with h
      subst h
      refine .inr ⟨_, _, t2, rfl, ?_⟩
      have run : ∀ (u : Tn), (rec144 K d).2.1 (wf t (fu t - δ), fn, a, P.tun (P.get l i (P.tof (0, ByteArray.mk #[], ByteArray.mk #[], ByteArray.mk #[], [], [], [], [])))) = some u → (P.cond (P.ilt i (P.len l)) (P.bind (ref22_on K (wf t (fu t - δ))) fun r => P.cond r (P.cond (P.inb i (P.len l)) (P.bind ((rec144 K d).2.1 (wf t (fu t - δ), fn, a, P.tun (P.get l i (P.tof (0, ByteArray.mk #[], ByteArray.mk #[], ByteArray.mk #[], [], [], [], []))))) fun r => P.cond (P.cut i (P.wrap .i64 (P.add i 1)) (P.len l)) (P.bind (ref03_Count K (P.sub_ l i (P.wrap .i64 (P.add i 1)))) fun r_1 => some (Sum.inl (P.wrap .i64 (P.add a r_1), P.wrap .i64 (P.add i 1), r))) none) none) (some (Sum.inr (Sum.inl (wf t (fu t - δ)))))) (some (Sum.inr (Sum.inl (wf t (fu t - δ)))))) = (some (.inl (P.wrap .i64 (P.add a b), P.wrap .i64 (P.add i 1), u)) : Option ((Int × Int × Tn) ⊕ (Tn ⊕ Tn))) := by
       intro u hu
       rw [c, cond_true, ho', bind_some, c2, cond_true, c3, cond_true, hu, bind_some, c4, cond_true, hb, bind_some]
      rcases hr with ⟨k1, k2, rfl⟩ | ⟨k1, k2⟩
      ·exact .inl ⟨k1, k2, run _ e'⟩
      ·exact .inr ⟨r', run _ e', k1, k2⟩
     ·cases h
    ·cases h
   ·injection h with h
    subst h
    refine .inl ⟨t, rfl, hI, hδ, ?_⟩
    show P.cond (P.ilt i (P.len l)) (P.bind (ref22_on K (wf t (fu t - δ))) _) _ = _
    rw [c, cond_true, ho', bind_some, c2]
    rfl
  ·injection h with h
   subst h
   refine .inl ⟨t, rfl, hI, hδ, ?_⟩
   show P.cond (P.ilt i (P.len l)) _ _ = _
   rw [c]
   rfl
 ·show P.cond (P.ilt i (P.len l)) (P.bind (ref22_on K r') _) _ = _
  cases P.ilt i (P.len l) with
  | true => rw [cond_true, on_out h]; rfl
  | false => rfl
theorem both (hN : N ≤ 1000) (h0 : 0 < δ) : ∀ d : Nat, SS N δ d ∧ BB N δ d := by
 intro d
 induction d with
 | zero =>
  refine ⟨fun n x _ t fn m r _ _ h => ?_, fun n l _ t fn m r _ _ h => ?_⟩
  ·cases h
  ·cases h
 | succ d ih => exact ⟨stmt_step hN h0 ih.1 ih.2, block_step ih.1⟩
abbrev Pn := Ty.D T_api_Program
def mach (p : Pn) (f : Int) : Ty.D T_proteanref22_Machine := (p, [], [0], [], f, 0, [], -1, 0, [], 0, false, (false, [], [], []), 0, [])
noncomputable def outc (r : Ty.D T_proteanref22_Machine × Int × Int) : Option (Ty.D T_api_Outcome) := P.cond (P.ile 0 r.1.2.2.2.2.2.2.2.1) (some (r.1.2.2.2.2.2.2.2.1, r.1.2.2.2.2.2.2.2.2.1, r.1.2.2.2.2.2.2.2.2.2.1, (0, 0), r.1.2.2.2.2.2.2.2.2.2.2.1)) (some (0, 0, r.1.2.2.2.2.2.2.2.2.2.1, r.2, r.1.2.2.2.2.2.2.2.2.2.2.1))
theorem run_eq (nm : ByteArray) (bd : List Tree) (f : Int) : ref22_Run K ([(nm, [], bd)], [], [], f) = P.bind (ref05_Check K [(nm, [], bd)]) fun r => P.cond (P.not (P.ieq r.1 0)) (some (3, -1, [], (0, 0), 0)) (P.bind (ref03_May K [(nm, [], bd)]) fun r => P.cond (P.not r) (some (3, -1, [], (0, 0), 0)) (P.bind (ref05_Fun K ([(nm, [], bd)], ByteArray.mk #[109, 97, 105, 110])) fun r => P.bind (ref22_call K (mach [(nm, [], bd)] f, r, [])) outc)) := by
 unfold ref22_Run ref22_Go
 simp only [bd_bd, bd_cd, bd_ei, bind_some]
 rw [show P.ilt 1000 (P.len [(nm, ([] : List ByteArray), bd)]) = false from rfl, cond_false]
 generalize ref05_Check K [(nm, [], bd)] = C
 generalize ref03_May K [(nm, [], bd)] = M
 generalize ref05_Fun K ([(nm, [], bd)], ByteArray.mk #[109, 97, 105, 110]) = F
 cases C with
 | none => rfl
 | some c =>
  simp only [bind_some]
  cases P.not (P.ieq c.1 0) with
  | true => rfl
  | false =>
   rw [cond_false, cond_false]
   cases M with
   | none => rfl
   | some m =>
    simp only [bind_some]
    cases P.not m with
    | true => rfl
    | false =>
     rw [cond_false, cond_false]
     kernel_rfl
end Go.PL.Fa
end
section
open Go Go.PG Go.PL
set_option linter.all false
namespace Go.PL.Fa
abbrev K1 : Nat := 18446744073709551615
theorem rec_call (d : Nat) : (rec144 K (d + 1)).2.2.2 = ref22_call_ (fun _ => (rec144 K d).1) (fun _ => (rec144 K d).2.1) (fun _ => (rec144 K d).2.2.1) (fun _ => (rec144 K d).2.2.2) K := rfl
theorem call_rec : ref22_call K = (rec144 K (K1 + 1)).2.2.2 := rfl
def tn0 (p : Pn) (f : Int) : Tn := ((p, [], [0], [], f, 1, [], -1, 0, [], 0, false, (false, [], [], []), 0, []), ([], [], []), false, 0, 0)
def back (r : Tn) : Ty.D T_proteanref22_Machine × Int × Int := ((r.1.1, r.1.2.1, r.1.2.2.1, r.1.2.2.2.1, r.1.2.2.2.2.1, P.wrap .i64 (P.sub r.1.2.2.2.2.2.1 1), r.1.2.2.2.2.2.2), r.2.2.2)
theorem call_out {nm : ByteArray} {bd : List Tree} {f v : Int} (hb : P.inb v (P.len [(nm, ([] : List ByteArray), bd)]) = false) : ref22_call K (mach [(nm, [], bd)] f, v, []) = none := by
 rw [call_rec, rec_call]
 unfold ref22_call_
 show P.cond (P.ile 60 0) _ (P.cond (P.inb v (P.len [(nm, ([] : List ByteArray), bd)])) _ none) = none
 rw [hb]
 rfl
theorem call_eq (nm : ByteArray) (bd : List Tree) (f : Int) : ref22_call K (mach [(nm, [], bd)] f, 0, []) = P.bind ((rec144 K K1).2.2.1 (tn0 [(nm, [], bd)] f, 0, bd, 0)) fun r => some (back r) := by
 rw [call_rec, rec_call]
 generalize (rec144 K K1).1 = a1
 generalize (rec144 K K1).2.1 = a2
 generalize (rec144 K K1).2.2.1 = a3
 generalize (rec144 K K1).2.2.2 = a4
 unfold ref22_call_
 kernel_rfl
theorem run_less {nm : ByteArray} {bd : List Tree} {n : Nat} {N less : Int} {o : Ty.D T_api_Outcome} (hN : N ≤ 1000) (h0 : 0 ≤ less) (h1 : less < N) (hk : ∀ x, x ∈ bd → okN n x = true)
  (h : ref22_Run K ([(nm, [], bd)], [], [], N) = some o) (he : o.1 = 0) (hs : o.2.2.2.2 = N) : ∃ o', ref22_Run K ([(nm, [], bd)], [], [], less) = some o' ∧ o'.1 = 1 ∧ o'.2.2.2.2 = less := by
 rw [run_eq] at h ⊢
 obtain ⟨c, hc, h⟩ := bd_ex h
 rw [hc, bind_some]
 rcases cd_or h with ⟨c1, h⟩ | ⟨c1, h⟩
 ·injection h with h
  rw [← h] at he
  cases he
 rw [c1, cond_false]
 obtain ⟨m, hm, h⟩ := bd_ex h
 rw [hm, bind_some]
 rcases cd_or h with ⟨c2, h⟩ | ⟨c2, h⟩
 ·injection h with h
  rw [← h] at he
  cases he
 rw [c2, cond_false]
 obtain ⟨v, hv, h⟩ := bd_ex h
 rw [hv, bind_some]
 obtain ⟨q, hq, h⟩ := bd_ex h
 have hv0 : @Eq Int v 0 := by
  cases hb : P.inb v (P.len [(nm, ([] : List ByteArray), bd)]) with
  | false => rw [call_out hb] at hq; cases hq
  | true =>
   rw [P.inb_def, Bool.and_eq_true, decide_eq_true_eq, decide_eq_true_eq] at hb
   have h2 : @LT.lt Int _ v 1 := hb.2
   have h3 : @LE.le Int _ 0 v := hb.1
   omega
 subst hv0
 rw [call_eq] at hq ⊢
 obtain ⟨r, hr, hq⟩ := bd_ex hq
 injection hq with hq
 subst hq
 have hsp : sp r = N := by
  unfold outc at h
  rcases cd_or h with ⟨_, h⟩ | ⟨_, h⟩
  ·injection h with h; rw [← hs, ← h]; rfl
  ·injection h with h; rw [← hs, ← h]; rfl
 have hI : Inv N (tn0 [(nm, [], bd)] N) := ⟨rfl, rfl, by show N + 0 = N; omega, by show 0 ≤ N; omega, by show N ≤ 1000; omega, by show (0 : Int) ≤ 0; omega, by show (0 : Int) ≤ 1000; omega⟩
 have hd : N - less ≤ fu (tn0 [(nm, [], bd)] N) := by show N - less ≤ N; omega
 obtain ⟨r', e', hres⟩ := (both (N := N) (δ := N - less) hN (by omega) K1).2 n bd hk (tn0 [(nm, [], bd)] N) 0 0 r hI hd hr
 have e0 : wf (tn0 [(nm, [], bd)] N) (fu (tn0 [(nm, [], bd)] N) - (N - less)) = tn0 [(nm, [], bd)] less := by
  show wf (tn0 [(nm, [], bd)] N) (N - (N - less)) = _
  rw [show N - (N - less) = less from by omega]
  rfl
 rw [e0] at e'
 rw [e', bind_some, bind_some]
 rcases hres with ⟨i1, i2, _⟩ | ⟨i1, i2⟩
 ·exfalso
  have := i1.sum
  omega
 ·have e1 : (back r').1.2.2.2.2.2.2.2.1 = 1 := i1
  have e2 : (back r').1.2.2.2.2.2.2.2.2.2.2.1 = less := by
   have : sp r' = less := by omega
   exact this
  unfold outc
  rw [e1, e2, show P.ile 0 1 = true from rfl, cond_true]
  exact ⟨_, rfl, rfl, rfl⟩
end Go.PL.Fa
end
section
open Go Go.PG Go.PL
set_option linter.all false
namespace Go.PL.Fa
noncomputable def accP (s : ByteArray) (st : Int) (w : Int × Int) (bd : List Tree) (c : Int) (p : Pn) : Bool := match P.ieq c 0, bd.all (okN 4), P.ile st 1000 with
 | true, true, true => match ref17_Check K p, ref03_Program K p, ref22_Run K (p, [], [], st) with
  | some v, some t, some o => match v.1, P.ieq (P.len v.2.2.1) 0, P.seq t s, P.ieq o.1 0, P.ieq o.2.2.2.2 st, P.and (P.ieq o.2.2.2.1.1 w.1) (P.ieq o.2.2.2.1.2 w.2) with
   | true, true, true, true, true, true => true
   | _, _, _, _, _, _ => false
  | _, _, _ => false
 | _, _, _ => false
noncomputable def acc (k n : Int) : Bool := match family_Text K (k, n), family_Steps K (k, n), family_Value K (k, n) with
 | some s, some st, some w => match ref02_Parse K s with
  | some ([(nm, [], bd)], c, _) => accP s st w bd c [(nm, [], bd)]
  | _ => false
 | _, _, _ => false
theorem acc_ok {k n : Int} (h : acc k n = true) (less : Int) : law26_FamilyAccepted K (k, n, less) = some true := by
 unfold acc at h
 split at h
 case h_2 => cases h
 rename_i s st w e1 e2 e3
 split at h
 case h_2 => cases h
 rename_i nm bd c a e4
 unfold accP at h
 split at h
 case h_2 => cases h
 rename_i h1 h2 h3
 split at h
 case h_2 => cases h
 rename_i v t o e5 e6 e7
 split at h
 case h_2 => cases h
 rename_i g1 g2 g3 g4 g5 g6
 unfold law26_FamilyAccepted
 dsimp only
 rw [e1, bind_some, fixed26, bind_some, show P.not true = false from rfl, cond_false]
 cases hs : P.seq s (ByteArray.mk #[]) with
 | true => rw [cond_true, bind_some]
 | false =>
  rw [cond_false, e4, bind_some]
  dsimp only
  rw [e5, bind_some, h1, show P.not true = false from rfl, cond_false, e6, bind_some, g3, show P.not true = false from rfl, cond_false, g1, show P.not true = false from rfl, cond_false, g2, show P.not true = false from rfl, cond_false, e2, bind_some, e7, bind_some, g4, show P.not true = false from rfl, cond_false, g5, show P.not true = false from rfl, cond_false, e3, bind_some, g6, show P.not true = false from rfl, cond_false]
  cases hl : P.ilt less 0 with
  | true => rw [cond_true]
  | false =>
   rw [cond_false]
   cases hm : P.ile st less with
   | true => rw [cond_true]
   | false =>
    rw [cond_false]
    rw [P.ilt_def, decide_eq_false_iff_not] at hl
    rw [P.ile_def, decide_eq_false_iff_not] at hm
    rw [P.ile_def, decide_eq_true_eq] at h3
    have h2' := List.all_eq_true.1 h2
    obtain ⟨o', q1, q2, q3⟩ := run_less (n := 4) (less := less) h3 (by omega) (by omega) h2' e7 (ieq_iff.1 g4) (ieq_iff.1 g5)
    rw [q1, bind_some, q2, q3, show P.ieq 1 1 = true from rfl, cond_true]
    exact congrArg some (ieq_iff.2 rfl)
end Go.PL.Fa
end
section
open Go Go.PG Go.PL
set_option linter.all false
set_option maxRecDepth 1000000
namespace Go.PL.Fa
theorem ac0_0 : acc (0 : Int) ((0 + 1 : Nat) : Int) = true := by kernel_rfl
theorem ac0_1 : acc (0 : Int) ((1 + 1 : Nat) : Int) = true := by kernel_rfl
theorem ac0_2 : acc (0 : Int) ((2 + 1 : Nat) : Int) = true := by kernel_rfl
theorem ac0_3 : acc (0 : Int) ((3 + 1 : Nat) : Int) = true := by kernel_rfl
theorem ac0_4 : acc (0 : Int) ((4 + 1 : Nat) : Int) = true := by kernel_rfl
theorem ac0_5 : acc (0 : Int) ((5 + 1 : Nat) : Int) = true := by kernel_rfl
theorem ac0_6 : acc (0 : Int) ((6 + 1 : Nat) : Int) = true := by kernel_rfl
theorem ac0_7 : acc (0 : Int) ((7 + 1 : Nat) : Int) = true := by kernel_rfl
theorem ac0_8 : acc (0 : Int) ((8 + 1 : Nat) : Int) = true := by kernel_rfl
theorem ac0_9 : acc (0 : Int) ((9 + 1 : Nat) : Int) = true := by kernel_rfl
theorem ac0_10 : acc (0 : Int) ((10 + 1 : Nat) : Int) = true := by kernel_rfl
theorem ac0_11 : acc (0 : Int) ((11 + 1 : Nat) : Int) = true := by kernel_rfl
theorem ac0_12 : acc (0 : Int) ((12 + 1 : Nat) : Int) = true := by kernel_rfl
theorem ac0_13 : acc (0 : Int) ((13 + 1 : Nat) : Int) = true := by kernel_rfl
theorem ac0_14 : acc (0 : Int) ((14 + 1 : Nat) : Int) = true := by kernel_rfl
theorem ac0_15 : acc (0 : Int) ((15 + 1 : Nat) : Int) = true := by kernel_rfl
theorem ac0_16 : acc (0 : Int) ((16 + 1 : Nat) : Int) = true := by kernel_rfl
theorem ac0_17 : acc (0 : Int) ((17 + 1 : Nat) : Int) = true := by kernel_rfl
theorem ac0_18 : acc (0 : Int) ((18 + 1 : Nat) : Int) = true := by kernel_rfl
theorem ac0_19 : acc (0 : Int) ((19 + 1 : Nat) : Int) = true := by kernel_rfl
theorem ak0 (n : Nat) (hn : n < 20) : acc (0 : Int) ((n + 1 : Nat) : Int) = true := match n, hn with
  | 0, _ => ac0_0
  | 1, _ => ac0_1
  | 2, _ => ac0_2
  | 3, _ => ac0_3
  | 4, _ => ac0_4
  | 5, _ => ac0_5
  | 6, _ => ac0_6
  | 7, _ => ac0_7
  | 8, _ => ac0_8
  | 9, _ => ac0_9
  | 10, _ => ac0_10
  | 11, _ => ac0_11
  | 12, _ => ac0_12
  | 13, _ => ac0_13
  | 14, _ => ac0_14
  | 15, _ => ac0_15
  | 16, _ => ac0_16
  | 17, _ => ac0_17
  | 18, _ => ac0_18
  | 19, _ => ac0_19
  | m + 20, h => absurd h (by omega)
end Go.PL.Fa
end
section
open Go Go.PG Go.PL
set_option linter.all false
set_option maxRecDepth 1000000
namespace Go.PL.Fa
theorem ac1_0 : acc (1 : Int) ((0 + 1 : Nat) : Int) = true := by kernel_rfl
theorem ac1_1 : acc (1 : Int) ((1 + 1 : Nat) : Int) = true := by kernel_rfl
theorem ac1_2 : acc (1 : Int) ((2 + 1 : Nat) : Int) = true := by kernel_rfl
theorem ac1_3 : acc (1 : Int) ((3 + 1 : Nat) : Int) = true := by kernel_rfl
theorem ac1_4 : acc (1 : Int) ((4 + 1 : Nat) : Int) = true := by kernel_rfl
theorem ac1_5 : acc (1 : Int) ((5 + 1 : Nat) : Int) = true := by kernel_rfl
theorem ac1_6 : acc (1 : Int) ((6 + 1 : Nat) : Int) = true := by kernel_rfl
theorem ac1_7 : acc (1 : Int) ((7 + 1 : Nat) : Int) = true := by kernel_rfl
theorem ac1_8 : acc (1 : Int) ((8 + 1 : Nat) : Int) = true := by kernel_rfl
theorem ac1_9 : acc (1 : Int) ((9 + 1 : Nat) : Int) = true := by kernel_rfl
theorem ac1_10 : acc (1 : Int) ((10 + 1 : Nat) : Int) = true := by kernel_rfl
theorem ac1_11 : acc (1 : Int) ((11 + 1 : Nat) : Int) = true := by kernel_rfl
theorem ac1_12 : acc (1 : Int) ((12 + 1 : Nat) : Int) = true := by kernel_rfl
theorem ac1_13 : acc (1 : Int) ((13 + 1 : Nat) : Int) = true := by kernel_rfl
theorem ac1_14 : acc (1 : Int) ((14 + 1 : Nat) : Int) = true := by kernel_rfl
theorem ac1_15 : acc (1 : Int) ((15 + 1 : Nat) : Int) = true := by kernel_rfl
theorem ac1_16 : acc (1 : Int) ((16 + 1 : Nat) : Int) = true := by kernel_rfl
theorem ac1_17 : acc (1 : Int) ((17 + 1 : Nat) : Int) = true := by kernel_rfl
theorem ac1_18 : acc (1 : Int) ((18 + 1 : Nat) : Int) = true := by kernel_rfl
theorem ac1_19 : acc (1 : Int) ((19 + 1 : Nat) : Int) = true := by kernel_rfl
theorem ak1 (n : Nat) (hn : n < 20) : acc (1 : Int) ((n + 1 : Nat) : Int) = true := match n, hn with
  | 0, _ => ac1_0
  | 1, _ => ac1_1
  | 2, _ => ac1_2
  | 3, _ => ac1_3
  | 4, _ => ac1_4
  | 5, _ => ac1_5
  | 6, _ => ac1_6
  | 7, _ => ac1_7
  | 8, _ => ac1_8
  | 9, _ => ac1_9
  | 10, _ => ac1_10
  | 11, _ => ac1_11
  | 12, _ => ac1_12
  | 13, _ => ac1_13
  | 14, _ => ac1_14
  | 15, _ => ac1_15
  | 16, _ => ac1_16
  | 17, _ => ac1_17
  | 18, _ => ac1_18
  | 19, _ => ac1_19
  | m + 20, h => absurd h (by omega)
end Go.PL.Fa
end
section
open Go Go.PG Go.PL
set_option linter.all false
set_option maxRecDepth 1000000
namespace Go.PL.Fa
theorem ac2_0 : acc (2 : Int) ((0 + 1 : Nat) : Int) = true := by kernel_rfl
theorem ac2_1 : acc (2 : Int) ((1 + 1 : Nat) : Int) = true := by kernel_rfl
theorem ac2_2 : acc (2 : Int) ((2 + 1 : Nat) : Int) = true := by kernel_rfl
theorem ac2_3 : acc (2 : Int) ((3 + 1 : Nat) : Int) = true := by kernel_rfl
theorem ac2_4 : acc (2 : Int) ((4 + 1 : Nat) : Int) = true := by kernel_rfl
theorem ac2_5 : acc (2 : Int) ((5 + 1 : Nat) : Int) = true := by kernel_rfl
theorem ac2_6 : acc (2 : Int) ((6 + 1 : Nat) : Int) = true := by kernel_rfl
theorem ac2_7 : acc (2 : Int) ((7 + 1 : Nat) : Int) = true := by kernel_rfl
theorem ac2_8 : acc (2 : Int) ((8 + 1 : Nat) : Int) = true := by kernel_rfl
theorem ac2_9 : acc (2 : Int) ((9 + 1 : Nat) : Int) = true := by kernel_rfl
theorem ac2_10 : acc (2 : Int) ((10 + 1 : Nat) : Int) = true := by kernel_rfl
theorem ac2_11 : acc (2 : Int) ((11 + 1 : Nat) : Int) = true := by kernel_rfl
theorem ac2_12 : acc (2 : Int) ((12 + 1 : Nat) : Int) = true := by kernel_rfl
theorem ac2_13 : acc (2 : Int) ((13 + 1 : Nat) : Int) = true := by kernel_rfl
theorem ac2_14 : acc (2 : Int) ((14 + 1 : Nat) : Int) = true := by kernel_rfl
theorem ac2_15 : acc (2 : Int) ((15 + 1 : Nat) : Int) = true := by kernel_rfl
theorem ac2_16 : acc (2 : Int) ((16 + 1 : Nat) : Int) = true := by kernel_rfl
theorem ac2_17 : acc (2 : Int) ((17 + 1 : Nat) : Int) = true := by kernel_rfl
theorem ac2_18 : acc (2 : Int) ((18 + 1 : Nat) : Int) = true := by kernel_rfl
theorem ac2_19 : acc (2 : Int) ((19 + 1 : Nat) : Int) = true := by kernel_rfl
theorem ak2 (n : Nat) (hn : n < 20) : acc (2 : Int) ((n + 1 : Nat) : Int) = true := match n, hn with
  | 0, _ => ac2_0
  | 1, _ => ac2_1
  | 2, _ => ac2_2
  | 3, _ => ac2_3
  | 4, _ => ac2_4
  | 5, _ => ac2_5
  | 6, _ => ac2_6
  | 7, _ => ac2_7
  | 8, _ => ac2_8
  | 9, _ => ac2_9
  | 10, _ => ac2_10
  | 11, _ => ac2_11
  | 12, _ => ac2_12
  | 13, _ => ac2_13
  | 14, _ => ac2_14
  | 15, _ => ac2_15
  | 16, _ => ac2_16
  | 17, _ => ac2_17
  | 18, _ => ac2_18
  | 19, _ => ac2_19
  | m + 20, h => absurd h (by omega)
end Go.PL.Fa
end
section
open Go Go.PG Go.PL
set_option linter.all false
set_option maxRecDepth 1000000
namespace Go.PL.Fa
theorem ac3_0 : acc (3 : Int) ((0 + 1 : Nat) : Int) = true := by kernel_rfl
theorem ac3_1 : acc (3 : Int) ((1 + 1 : Nat) : Int) = true := by kernel_rfl
theorem ac3_2 : acc (3 : Int) ((2 + 1 : Nat) : Int) = true := by kernel_rfl
theorem ac3_3 : acc (3 : Int) ((3 + 1 : Nat) : Int) = true := by kernel_rfl
theorem ac3_4 : acc (3 : Int) ((4 + 1 : Nat) : Int) = true := by kernel_rfl
theorem ac3_5 : acc (3 : Int) ((5 + 1 : Nat) : Int) = true := by kernel_rfl
theorem ac3_6 : acc (3 : Int) ((6 + 1 : Nat) : Int) = true := by kernel_rfl
theorem ac3_7 : acc (3 : Int) ((7 + 1 : Nat) : Int) = true := by kernel_rfl
theorem ac3_8 : acc (3 : Int) ((8 + 1 : Nat) : Int) = true := by kernel_rfl
theorem ac3_9 : acc (3 : Int) ((9 + 1 : Nat) : Int) = true := by kernel_rfl
theorem ac3_10 : acc (3 : Int) ((10 + 1 : Nat) : Int) = true := by kernel_rfl
theorem ac3_11 : acc (3 : Int) ((11 + 1 : Nat) : Int) = true := by kernel_rfl
theorem ac3_12 : acc (3 : Int) ((12 + 1 : Nat) : Int) = true := by kernel_rfl
theorem ac3_13 : acc (3 : Int) ((13 + 1 : Nat) : Int) = true := by kernel_rfl
theorem ac3_14 : acc (3 : Int) ((14 + 1 : Nat) : Int) = true := by kernel_rfl
theorem ac3_15 : acc (3 : Int) ((15 + 1 : Nat) : Int) = true := by kernel_rfl
theorem ac3_16 : acc (3 : Int) ((16 + 1 : Nat) : Int) = true := by kernel_rfl
theorem ac3_17 : acc (3 : Int) ((17 + 1 : Nat) : Int) = true := by kernel_rfl
theorem ac3_18 : acc (3 : Int) ((18 + 1 : Nat) : Int) = true := by kernel_rfl
theorem ac3_19 : acc (3 : Int) ((19 + 1 : Nat) : Int) = true := by kernel_rfl
theorem ak3 (n : Nat) (hn : n < 20) : acc (3 : Int) ((n + 1 : Nat) : Int) = true := match n, hn with
  | 0, _ => ac3_0
  | 1, _ => ac3_1
  | 2, _ => ac3_2
  | 3, _ => ac3_3
  | 4, _ => ac3_4
  | 5, _ => ac3_5
  | 6, _ => ac3_6
  | 7, _ => ac3_7
  | 8, _ => ac3_8
  | 9, _ => ac3_9
  | 10, _ => ac3_10
  | 11, _ => ac3_11
  | 12, _ => ac3_12
  | 13, _ => ac3_13
  | 14, _ => ac3_14
  | 15, _ => ac3_15
  | 16, _ => ac3_16
  | 17, _ => ac3_17
  | 18, _ => ac3_18
  | 19, _ => ac3_19
  | m + 20, h => absurd h (by omega)
end Go.PL.Fa
end
section
open Go Go.PG Go.PL
set_option linter.all false
set_option maxRecDepth 1000000
namespace Go.PL.Fa
theorem ac4_0 : acc (4 : Int) ((0 + 1 : Nat) : Int) = true := by kernel_rfl
theorem ac4_1 : acc (4 : Int) ((1 + 1 : Nat) : Int) = true := by kernel_rfl
theorem ac4_2 : acc (4 : Int) ((2 + 1 : Nat) : Int) = true := by kernel_rfl
theorem ac4_3 : acc (4 : Int) ((3 + 1 : Nat) : Int) = true := by kernel_rfl
theorem ac4_4 : acc (4 : Int) ((4 + 1 : Nat) : Int) = true := by kernel_rfl
theorem ac4_5 : acc (4 : Int) ((5 + 1 : Nat) : Int) = true := by kernel_rfl
theorem ac4_6 : acc (4 : Int) ((6 + 1 : Nat) : Int) = true := by kernel_rfl
theorem ac4_7 : acc (4 : Int) ((7 + 1 : Nat) : Int) = true := by kernel_rfl
theorem ac4_8 : acc (4 : Int) ((8 + 1 : Nat) : Int) = true := by kernel_rfl
theorem ac4_9 : acc (4 : Int) ((9 + 1 : Nat) : Int) = true := by kernel_rfl
theorem ac4_10 : acc (4 : Int) ((10 + 1 : Nat) : Int) = true := by kernel_rfl
theorem ac4_11 : acc (4 : Int) ((11 + 1 : Nat) : Int) = true := by kernel_rfl
theorem ac4_12 : acc (4 : Int) ((12 + 1 : Nat) : Int) = true := by kernel_rfl
theorem ac4_13 : acc (4 : Int) ((13 + 1 : Nat) : Int) = true := by kernel_rfl
theorem ac4_14 : acc (4 : Int) ((14 + 1 : Nat) : Int) = true := by kernel_rfl
theorem ac4_15 : acc (4 : Int) ((15 + 1 : Nat) : Int) = true := by kernel_rfl
theorem ac4_16 : acc (4 : Int) ((16 + 1 : Nat) : Int) = true := by kernel_rfl
theorem ac4_17 : acc (4 : Int) ((17 + 1 : Nat) : Int) = true := by kernel_rfl
theorem ac4_18 : acc (4 : Int) ((18 + 1 : Nat) : Int) = true := by kernel_rfl
theorem ac4_19 : acc (4 : Int) ((19 + 1 : Nat) : Int) = true := by kernel_rfl
theorem ak4 (n : Nat) (hn : n < 20) : acc (4 : Int) ((n + 1 : Nat) : Int) = true := match n, hn with
  | 0, _ => ac4_0
  | 1, _ => ac4_1
  | 2, _ => ac4_2
  | 3, _ => ac4_3
  | 4, _ => ac4_4
  | 5, _ => ac4_5
  | 6, _ => ac4_6
  | 7, _ => ac4_7
  | 8, _ => ac4_8
  | 9, _ => ac4_9
  | 10, _ => ac4_10
  | 11, _ => ac4_11
  | 12, _ => ac4_12
  | 13, _ => ac4_13
  | 14, _ => ac4_14
  | 15, _ => ac4_15
  | 16, _ => ac4_16
  | 17, _ => ac4_17
  | 18, _ => ac4_18
  | 19, _ => ac4_19
  | m + 20, h => absurd h (by omega)
end Go.PL.Fa
end
section
open Go Go.PG Go.PL
set_option linter.all false
set_option maxRecDepth 1000000
namespace Go.PL.Fa
theorem accepted26 (x : Int × Int × Int) : law26_FamilyAccepted K x = some true := by
  obtain ⟨k, n, less⟩ := x
  by_cases h : InF k n
  · obtain ⟨a, b, ha, hb, rfl, rfl⟩ := in_nat h
    have : a = 0 ∨ a = 1 ∨ a = 2 ∨ a = 3 ∨ a = 4 := by omega
    rcases this with rfl | rfl | rfl | rfl | rfl
    · exact acc_ok (ak0 b hb) less
    · exact acc_ok (ak1 b hb) less
    · exact acc_ok (ak2 b hb) less
    · exact acc_ok (ak3 b hb) less
    · exact acc_ok (ak4 b hb) less
  · unfold law26_FamilyAccepted
    try dsimp only
    rw [text_out h, bind_some, fixed26, bind_some, show P.not true = false from rfl, cond_false, show P.seq ⟨#[]⟩ ⟨#[]⟩ = true from rfl, cond_true, bind_some]
end Go.PL.Fa
end

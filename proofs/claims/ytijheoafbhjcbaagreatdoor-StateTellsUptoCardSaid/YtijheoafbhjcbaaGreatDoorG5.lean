/- Lemmas for the claim. -/
import Derived.Test.YtijheoafbhjcbaaGreatDoorG4
import Derived.KernelRfl
import Derived.Test.YtijheoafbhjcbaaGreatDoorG1
import Derived.Lib.Bytealg
import Derived.Laws.Strings
import Derived.Test.YtijheoafbhjcbaaGreatDoorG3
set_option linter.all false
section
open Go Go.PG Go.Proofs
set_option linter.all false
set_option maxRecDepth 1000000
set_option maxHeartbeats 4000000
noncomputable def ref08_Same : (k : Nat) → (Ty.D (.pair Ust Ust)) → Option (Ty.D .bool) := fun (k : Nat) (x : (Ust.pair Ust).D) => P.cond (P.not (P.beq x.fst.fst x.snd.fst)) (some false) (P.cond (P.not (P.ieq (P.len x.fst.snd.fst) (P.len x.snd.snd.fst))) (some false) (P.cond (P.not (P.ieq (P.len x.fst.snd.snd) (P.len x.snd.snd.snd))) (some false) (P.bind (P.iter k (fun (y : Int) => P.cond (P.ilt y (P.len x.fst.snd.fst)) (P.cond (P.inb y (P.len x.fst.snd.fst)) (P.cond (P.inb y (P.len x.snd.snd.fst)) (P.cond (P.not (P.seq (P.get x.fst.snd.fst y ((ByteArray.mk #[]), [])).fst (P.get x.snd.snd.fst y ((ByteArray.mk #[]), [])).fst)) (some (Sum.inr (Sum.inr false))) (P.cond (P.inb y (P.len x.fst.snd.fst)) (P.cond (P.inb y (P.len x.snd.snd.fst)) (P.bind (ref06_Same k ((P.get x.fst.snd.fst y ((ByteArray.mk #[]), [])).snd, (P.get x.snd.snd.fst y ((ByteArray.mk #[]), [])).snd)) fun (r : Bool) => P.cond (P.not r) (some (Sum.inr (Sum.inr false))) (some (Sum.inl (P.wrap IntKind.i64 (P.add y (1 : Int)))))) none) none)) none) none) (some (Sum.inr (Sum.inl PUnit.unit)))) (0 : Int)) (P.either (fun (z : PUnit) => P.bind (P.iter k (fun (y : Int) => P.cond (P.ilt y (P.len x.fst.snd.snd)) (P.cond (P.inb y (P.len x.fst.snd.snd)) (P.cond (P.inb y (P.len x.snd.snd.snd)) (P.cond (P.not (P.and (P.ieq (P.get x.fst.snd.snd y (((0 : Int), (0 : Int)), [], [])).fst.fst (P.get x.snd.snd.snd y (((0 : Int), (0 : Int)), [], [])).fst.fst) (P.ieq (P.get x.fst.snd.snd y (((0 : Int), (0 : Int)), [], [])).fst.snd (P.get x.snd.snd.snd y (((0 : Int), (0 : Int)), [], [])).fst.snd))) (some (Sum.inr (Sum.inr false))) (P.cond (P.inb y (P.len x.fst.snd.snd)) (P.cond (P.inb y (P.len x.snd.snd.snd)) (P.bind (ref07_Same k ((P.get x.fst.snd.snd y (((0 : Int), (0 : Int)), [], [])).snd, (P.get x.snd.snd.snd y (((0 : Int), (0 : Int)), [], [])).snd)) fun (r : Bool) => P.cond (P.not r) (some (Sum.inr (Sum.inr false))) (some (Sum.inl (P.wrap IntKind.i64 (P.add y (1 : Int)))))) none) none)) none) none) (some (Sum.inr (Sum.inl PUnit.unit)))) (0 : Int)) (P.either (fun (z : PUnit) => some true) fun (r : Bool) => some r)) fun (r : Bool) => some r))))
theorem ref08_Same_eq (k : Nat) (x : _) : evFn (EN k [(15, ⟨(.pair (.slice Uat) (.slice Uat)), .bool, ref06_Same k⟩), (18, ⟨(.pair Ush Ush), .bool, ref07_Same k⟩)]) 6 Tryz.f21 [(4, ⟨[.var 5 (.d (.int .i64))], [], (some (0, []))⟩), (9, ⟨[.var 6 (.d (.int .i64))], [], (some (2, []))⟩)] (.pair Ust Ust) .bool x = ref08_Same k x := by kernel_rfl
theorem ref08_Same_spec (k : Nat) : SpecOk Tryz.prog GG 21 ⟨(.pair Ust Ust), .bool, ref08_Same k⟩ :=
 fn_spec (envE (.cons (ref06_Same_spec k) Tryz.func15 f15_ok <| .cons (ref07_Same_spec k) Tryz.func18 f18_ok <| .nil)) Tryz.func21 (fun x => (ref08_Same_eq k x).symm)
noncomputable def ref08_Set : (k : Nat) → (Ty.D (.pair Ust (.pair .str (.slice Uat)))) → Option (Ty.D Ust) := fun (k : Nat) (x : (Ust.pair (Ty.str.pair Uat.slice)).D) => P.bind (ref08_May k x.fst) fun (r : Bool) => P.cond (P.not r) (some (false, [], [])) (P.cond x.fst.fst (some x.fst) (P.bind (ref06_Norm k x.snd.snd) fun (r : tA) => P.bind (P.iter k (fun (y : Bool × Int × tS) => P.cond (P.ilt y.snd.fst (P.len x.fst.snd.fst)) (P.cond (P.not y.fst) (P.cond (P.inb y.snd.fst (P.len x.fst.snd.fst)) (P.cond (P.sle x.snd.fst (P.get x.fst.snd.fst y.snd.fst ((ByteArray.mk #[]), [])).fst) (P.cond (P.room (P.add (P.len y.snd.snd.snd.fst) (P.len [(x.snd.fst, r)])) 40) (P.cond (P.inb y.snd.fst (P.len x.fst.snd.fst)) (P.cond (P.not (P.seq (P.get x.fst.snd.fst y.snd.fst ((ByteArray.mk #[]), [])).fst x.snd.fst)) (P.cond (P.inb y.snd.fst (P.len x.fst.snd.fst)) (P.cond (P.room (P.add (P.len (P.app y.snd.snd.snd.fst [(x.snd.fst, r)])) (P.len [P.get x.fst.snd.fst y.snd.fst ((ByteArray.mk #[]), [])])) 40) (some (Sum.inl (true, P.wrap IntKind.i64 (P.add y.snd.fst (1 : Int)), y.snd.snd.fst, P.app (P.app y.snd.snd.snd.fst [(x.snd.fst, r)]) [P.get x.fst.snd.fst y.snd.fst ((ByteArray.mk #[]), [])], y.snd.snd.snd.snd))) none) none) (some (Sum.inl (true, P.wrap IntKind.i64 (P.add y.snd.fst (1 : Int)), y.snd.snd.fst, P.app y.snd.snd.snd.fst [(x.snd.fst, r)], y.snd.snd.snd.snd)))) none) none) (P.cond (P.inb y.snd.fst (P.len x.fst.snd.fst)) (P.cond (P.not (P.seq (P.get x.fst.snd.fst y.snd.fst ((ByteArray.mk #[]), [])).fst x.snd.fst)) (P.cond (P.inb y.snd.fst (P.len x.fst.snd.fst)) (P.cond (P.room (P.add (P.len y.snd.snd.snd.fst) (P.len [P.get x.fst.snd.fst y.snd.fst ((ByteArray.mk #[]), [])])) 40) (some (Sum.inl (y.fst, P.wrap IntKind.i64 (P.add y.snd.fst (1 : Int)), y.snd.snd.fst, P.app y.snd.snd.snd.fst [P.get x.fst.snd.fst y.snd.fst ((ByteArray.mk #[]), [])], y.snd.snd.snd.snd))) none) none) (some (Sum.inl (y.fst, P.wrap IntKind.i64 (P.add y.snd.fst (1 : Int)), y.snd.snd.fst, y.snd.snd.snd.fst, y.snd.snd.snd.snd)))) none)) none) (P.cond (P.inb y.snd.fst (P.len x.fst.snd.fst)) (P.cond (P.not (P.seq (P.get x.fst.snd.fst y.snd.fst ((ByteArray.mk #[]), [])).fst x.snd.fst)) (P.cond (P.inb y.snd.fst (P.len x.fst.snd.fst)) (P.cond (P.room (P.add (P.len y.snd.snd.snd.fst) (P.len [P.get x.fst.snd.fst y.snd.fst ((ByteArray.mk #[]), [])])) 40) (some (Sum.inl (y.fst, P.wrap IntKind.i64 (P.add y.snd.fst (1 : Int)), y.snd.snd.fst, P.app y.snd.snd.snd.fst [P.get x.fst.snd.fst y.snd.fst ((ByteArray.mk #[]), [])], y.snd.snd.snd.snd))) none) none) (some (Sum.inl (y.fst, P.wrap IntKind.i64 (P.add y.snd.fst (1 : Int)), y.snd.snd.fst, y.snd.snd.snd.fst, y.snd.snd.snd.snd)))) none)) (some (Sum.inr (Sum.inl (y.fst, y.snd.snd.fst, y.snd.snd.snd.fst, y.snd.snd.snd.snd))))) (false, (0 : Int), false, [], x.fst.snd.snd)) (P.either (fun (z : Bool × tS) => P.cond (P.not z.fst) (P.cond (P.room (P.add (P.len z.snd.snd.fst) (P.len [(x.snd.fst, r)])) 40) (some (z.snd.fst, P.app z.snd.snd.fst [(x.snd.fst, r)], z.snd.snd.snd)) none) (some (z.snd.fst, z.snd.snd.fst, z.snd.snd.snd))) fun (r : tS) => some r)))
theorem ref08_Set_eq (k : Nat) (x : _) : evFn (EN k [(14, ⟨Ust, .bool, ref08_May k⟩), (62, ⟨(.slice Uat), (.slice Uat), ref06_Norm k⟩)]) 6 Tryz.f27 [(9, ⟨[.var 9 (.d .bool), .var 10 (.d (.int .i64)), .box 7 [] (.s (.p (.d .bool) (.p (.o (.st (.pair .str (.slice (.st (.pair (.int .i64) (.int .i64))))))) (.d (.slice (.st (.pair (.st (.pair (.int .i64) (.int .i64))) (.st (.pair (.slice (.st (.pair .str (.pair .bool (.slice (.st (.pair (.int .i64) (.int .i64)))))))) (.slice (.st (.pair (.int .i64) (.int .i64)))))))))))))], [], (some (0, [.var 9 (.d .bool), .box 7 [] (.s (.p (.d .bool) (.p (.o (.st (.pair .str (.slice (.st (.pair (.int .i64) (.int .i64))))))) (.d (.slice (.st (.pair (.st (.pair (.int .i64) (.int .i64))) (.st (.pair (.slice (.st (.pair .str (.pair .bool (.slice (.st (.pair (.int .i64) (.int .i64)))))))) (.slice (.st (.pair (.int .i64) (.int .i64)))))))))))))]))⟩)] (.pair Ust (.pair .str (.slice Uat))) Ust x = ref08_Set k x := by kernel_rfl
theorem ref08_Set_spec (k : Nat) : SpecOk Tryz.prog GG 27 ⟨(.pair Ust (.pair .str (.slice Uat))), Ust, ref08_Set k⟩ :=
 fn_spec (envE (.cons (ref08_May_spec k) Tryz.func14 f14_ok <| .cons (ref06_Norm_spec k) Tryz.func62 f62_ok <| .nil)) Tryz.func27 (fun x => (ref08_Set_eq k x).symm)
noncomputable def ref08_Put : (k : Nat) → (Ty.D (.pair Ust (.pair Uat Ush))) → Option (Ty.D Ust) := fun (k : Nat) (x : (Ust.pair (Uat.pair Ush)).D) => P.bind (ref08_May k x.fst) fun (r : Bool) => P.cond (P.not r) (some (false, [], [])) (P.bind (ref08_Place k x.snd.fst) fun (r : Bool) => P.cond (P.not r) (some (false, [], [])) (P.bind (ref07_May k x.snd.snd) fun (r : Bool) => P.cond (P.not r) (some (false, [], [])) (P.cond x.fst.fst (some x.fst) (P.bind (P.iter k (fun (y : Bool × Int × tS) => P.cond (P.ilt y.snd.fst (P.len x.fst.snd.snd)) (P.cond (P.not y.fst) (P.cond (P.inb y.snd.fst (P.len x.fst.snd.snd)) (P.bind (ref06_Less k ((P.get x.fst.snd.snd y.snd.fst (((0 : Int), (0 : Int)), [], [])).fst, x.snd.fst)) fun (r : Bool) => P.cond (P.not r) (P.cond (P.room (P.add (P.len y.snd.snd.snd.snd) (P.len [(x.snd.fst, x.snd.snd)])) 64) (P.cond (P.inb y.snd.fst (P.len x.fst.snd.snd)) (P.cond (P.not (P.and (P.ieq (P.get x.fst.snd.snd y.snd.fst (((0 : Int), (0 : Int)), [], [])).fst.fst x.snd.fst.fst) (P.ieq (P.get x.fst.snd.snd y.snd.fst (((0 : Int), (0 : Int)), [], [])).fst.snd x.snd.fst.snd))) (P.cond (P.inb y.snd.fst (P.len x.fst.snd.snd)) (P.cond (P.room (P.add (P.len (P.app y.snd.snd.snd.snd [(x.snd.fst, x.snd.snd)])) (P.len [P.get x.fst.snd.snd y.snd.fst (((0 : Int), (0 : Int)), [], [])])) 64) (some (Sum.inl (true, P.wrap IntKind.i64 (P.add y.snd.fst (1 : Int)), y.snd.snd.fst, y.snd.snd.snd.fst, P.app (P.app y.snd.snd.snd.snd [(x.snd.fst, x.snd.snd)]) [P.get x.fst.snd.snd y.snd.fst (((0 : Int), (0 : Int)), [], [])]))) none) none) (some (Sum.inl (true, P.wrap IntKind.i64 (P.add y.snd.fst (1 : Int)), y.snd.snd.fst, y.snd.snd.snd.fst, P.app y.snd.snd.snd.snd [(x.snd.fst, x.snd.snd)])))) none) none) (P.cond (P.inb y.snd.fst (P.len x.fst.snd.snd)) (P.cond (P.not (P.and (P.ieq (P.get x.fst.snd.snd y.snd.fst (((0 : Int), (0 : Int)), [], [])).fst.fst x.snd.fst.fst) (P.ieq (P.get x.fst.snd.snd y.snd.fst (((0 : Int), (0 : Int)), [], [])).fst.snd x.snd.fst.snd))) (P.cond (P.inb y.snd.fst (P.len x.fst.snd.snd)) (P.cond (P.room (P.add (P.len y.snd.snd.snd.snd) (P.len [P.get x.fst.snd.snd y.snd.fst (((0 : Int), (0 : Int)), [], [])])) 64) (some (Sum.inl (y.fst, P.wrap IntKind.i64 (P.add y.snd.fst (1 : Int)), y.snd.snd.fst, y.snd.snd.snd.fst, P.app y.snd.snd.snd.snd [P.get x.fst.snd.snd y.snd.fst (((0 : Int), (0 : Int)), [], [])]))) none) none) (some (Sum.inl (y.fst, P.wrap IntKind.i64 (P.add y.snd.fst (1 : Int)), y.snd.snd.fst, y.snd.snd.snd.fst, y.snd.snd.snd.snd)))) none)) none) (P.cond (P.inb y.snd.fst (P.len x.fst.snd.snd)) (P.cond (P.not (P.and (P.ieq (P.get x.fst.snd.snd y.snd.fst (((0 : Int), (0 : Int)), [], [])).fst.fst x.snd.fst.fst) (P.ieq (P.get x.fst.snd.snd y.snd.fst (((0 : Int), (0 : Int)), [], [])).fst.snd x.snd.fst.snd))) (P.cond (P.inb y.snd.fst (P.len x.fst.snd.snd)) (P.cond (P.room (P.add (P.len y.snd.snd.snd.snd) (P.len [P.get x.fst.snd.snd y.snd.fst (((0 : Int), (0 : Int)), [], [])])) 64) (some (Sum.inl (y.fst, P.wrap IntKind.i64 (P.add y.snd.fst (1 : Int)), y.snd.snd.fst, y.snd.snd.snd.fst, P.app y.snd.snd.snd.snd [P.get x.fst.snd.snd y.snd.fst (((0 : Int), (0 : Int)), [], [])]))) none) none) (some (Sum.inl (y.fst, P.wrap IntKind.i64 (P.add y.snd.fst (1 : Int)), y.snd.snd.fst, y.snd.snd.snd.fst, y.snd.snd.snd.snd)))) none)) (some (Sum.inr (Sum.inl (y.fst, y.snd.snd.fst, y.snd.snd.snd.fst, y.snd.snd.snd.snd))))) (false, (0 : Int), false, x.fst.snd.fst, [])) (P.either (fun (z : Bool × tS) => P.cond (P.not z.fst) (P.cond (P.room (P.add (P.len z.snd.snd.snd) (P.len [(x.snd.fst, x.snd.snd)])) 64) (some (z.snd.fst, z.snd.snd.fst, P.app z.snd.snd.snd [(x.snd.fst, x.snd.snd)])) none) (some (z.snd.fst, z.snd.snd.fst, z.snd.snd.snd))) fun (r : tS) => some r)))))
theorem ref08_Put_eq (k : Nat) (x : _) : evFn (EN k [(14, ⟨Ust, .bool, ref08_May k⟩), (31, ⟨Ush, .bool, ref07_May k⟩), (32, ⟨Uat, .bool, ref08_Place k⟩), (44, ⟨(.pair Uat Uat), .bool, ref06_Less k⟩)]) 6 Tryz.f29 [(9, ⟨[.var 9 (.d .bool), .var 10 (.d (.int .i64)), .box 7 [] (.s (.p (.d .bool) (.p (.d (.slice (.st (.pair .str (.slice (.st (.pair (.int .i64) (.int .i64)))))))) (.o (.st (.pair (.st (.pair (.int .i64) (.int .i64))) (.st (.pair (.slice (.st (.pair .str (.pair .bool (.slice (.st (.pair (.int .i64) (.int .i64)))))))) (.slice (.st (.pair (.int .i64) (.int .i64))))))))))))], [], (some (0, [.var 9 (.d .bool), .box 7 [] (.s (.p (.d .bool) (.p (.d (.slice (.st (.pair .str (.slice (.st (.pair (.int .i64) (.int .i64)))))))) (.o (.st (.pair (.st (.pair (.int .i64) (.int .i64))) (.st (.pair (.slice (.st (.pair .str (.pair .bool (.slice (.st (.pair (.int .i64) (.int .i64)))))))) (.slice (.st (.pair (.int .i64) (.int .i64))))))))))))]))⟩)] (.pair Ust (.pair Uat Ush)) Ust x = ref08_Put k x := by kernel_rfl
theorem ref08_Put_spec (k : Nat) : SpecOk Tryz.prog GG 29 ⟨(.pair Ust (.pair Uat Ush)), Ust, ref08_Put k⟩ :=
 fn_spec (envE (.cons (ref08_May_spec k) Tryz.func14 f14_ok <| .cons (ref07_May_spec k) Tryz.func31 f31_ok <| .cons (ref08_Place_spec k) Tryz.func32 f32_ok <| .cons (ref06_Less_spec k) Tryz.func44 f44_ok <| .nil)) Tryz.func29 (fun x => (ref08_Put_eq k x).symm)
noncomputable def ref06_Union : (k : Nat) → (Ty.D (.pair (.slice Uat) (.slice Uat))) → Option (Ty.D (.slice Uat)) := fun (k : Nat) (x : (Uat.slice.pair Uat.slice).D) => P.bind (ref06_Norm k x.fst) fun (r : tA) => P.bind (P.iter k (fun (y : tA × Int) => P.cond (P.ilt y.snd (P.len x.snd)) (P.cond (P.inb y.snd (P.len x.snd)) (P.bind (ref06_add k (y.fst, P.get x.snd y.snd ((0 : Int), (0 : Int)))) fun (r : tA) => some (Sum.inl (r, P.wrap IntKind.i64 (P.add y.snd (1 : Int))))) none) (some (Sum.inr (Sum.inl y.fst)))) (r, (0 : Int))) (P.either (fun (z : tA) => some z) fun (r : tA) => some r)
theorem ref06_Union_eq (k : Nat) (x : _) : evFn (EN k [(62, ⟨(.slice Uat), (.slice Uat), ref06_Norm k⟩), (63, ⟨(.pair (.slice Uat) Uat), (.slice Uat), ref06_add k⟩)]) 6 Tryz.f33 [(3, ⟨[.var 5 (.d (.slice (.st (.pair (.int .i64) (.int .i64))))), .var 6 (.d (.int .i64))], [], (some (0, [.var 5 (.d (.slice (.st (.pair (.int .i64) (.int .i64)))))]))⟩)] (.pair (.slice Uat) (.slice Uat)) (.slice Uat) x = ref06_Union k x := by kernel_rfl
theorem ref06_Union_spec (k : Nat) : SpecOk Tryz.prog GG 33 ⟨(.pair (.slice Uat) (.slice Uat)), (.slice Uat), ref06_Union k⟩ :=
 fn_spec (envE (.cons (ref06_Norm_spec k) Tryz.func62 f62_ok <| .cons (ref06_add_spec k) Tryz.func63 f63_ok <| .nil)) Tryz.func33 (fun x => (ref06_Union_eq k x).symm)
noncomputable def ref07_Get : (k : Nat) → (Ty.D (.pair Ush .str)) → Option (Ty.D (.pair Ufd .bool)) := fun (k : Nat) (x : (Ush.pair Ty.str).D) => P.bind (P.iter k (fun (y : Int) => P.cond (P.ilt y (P.len x.fst.fst)) (P.cond (P.inb y (P.len x.fst.fst)) (P.cond (P.seq (P.get x.fst.fst y ((ByteArray.mk #[]), false, [])).fst x.snd) (P.cond (P.inb y (P.len x.fst.fst)) (some (Sum.inr (Sum.inr (P.get x.fst.fst y ((ByteArray.mk #[]), false, []), true)))) none) (some (Sum.inl (P.wrap IntKind.i64 (P.add y (1 : Int)))))) none) (some (Sum.inr (Sum.inl PUnit.unit)))) (0 : Int)) (P.either (fun (z : PUnit) => some (((ByteArray.mk #[]), false, []), false)) fun (r : (ByteArray × Bool × tA) × Bool) => some r)
theorem ref07_Get_eq (k : Nat) (x : _) : evFn (EN k []) 6 Tryz.f89 [(2, ⟨[.var 6 (.d (.int .i64))], [4], (some (0, []))⟩)] (.pair Ush .str) (.pair Ufd .bool) x = ref07_Get k x := by kernel_rfl
theorem ref07_Get_spec (k : Nat) : SpecOk Tryz.prog GG 89 ⟨(.pair Ush .str), (.pair Ufd .bool), ref07_Get k⟩ :=
 fn_spec (envE .nil) Tryz.func89 (fun x => (ref07_Get_eq k x).symm)
noncomputable def ref07_With : (k : Nat) → (Ty.D (.pair Ush Ufd)) → Option (Ty.D Ush) := fun (k : Nat) (x : (Ush.pair Ufd).D) => P.bind (P.iter k (fun (y : Bool × Int × tO) => P.cond (P.ilt y.snd.fst (P.len x.fst.fst)) (P.cond (P.not y.fst) (P.cond (P.inb y.snd.fst (P.len x.fst.fst)) (P.cond (P.sle x.snd.fst (P.get x.fst.fst y.snd.fst ((ByteArray.mk #[]), false, [])).fst) (P.cond (P.room (P.add (P.len y.snd.snd.fst) (P.len [x.snd])) 48) (P.cond (P.inb y.snd.fst (P.len x.fst.fst)) (P.cond (P.not (P.seq (P.get x.fst.fst y.snd.fst ((ByteArray.mk #[]), false, [])).fst x.snd.fst)) (P.cond (P.inb y.snd.fst (P.len x.fst.fst)) (P.cond (P.room (P.add (P.len (P.app y.snd.snd.fst [x.snd])) (P.len [P.get x.fst.fst y.snd.fst ((ByteArray.mk #[]), false, [])])) 48) (some (Sum.inl (true, P.wrap IntKind.i64 (P.add y.snd.fst (1 : Int)), P.app (P.app y.snd.snd.fst [x.snd]) [P.get x.fst.fst y.snd.fst ((ByteArray.mk #[]), false, [])], y.snd.snd.snd))) none) none) (some (Sum.inl (true, P.wrap IntKind.i64 (P.add y.snd.fst (1 : Int)), P.app y.snd.snd.fst [x.snd], y.snd.snd.snd)))) none) none) (P.cond (P.inb y.snd.fst (P.len x.fst.fst)) (P.cond (P.not (P.seq (P.get x.fst.fst y.snd.fst ((ByteArray.mk #[]), false, [])).fst x.snd.fst)) (P.cond (P.inb y.snd.fst (P.len x.fst.fst)) (P.cond (P.room (P.add (P.len y.snd.snd.fst) (P.len [P.get x.fst.fst y.snd.fst ((ByteArray.mk #[]), false, [])])) 48) (some (Sum.inl (y.fst, P.wrap IntKind.i64 (P.add y.snd.fst (1 : Int)), P.app y.snd.snd.fst [P.get x.fst.fst y.snd.fst ((ByteArray.mk #[]), false, [])], y.snd.snd.snd))) none) none) (some (Sum.inl (y.fst, P.wrap IntKind.i64 (P.add y.snd.fst (1 : Int)), y.snd.snd.fst, y.snd.snd.snd)))) none)) none) (P.cond (P.inb y.snd.fst (P.len x.fst.fst)) (P.cond (P.not (P.seq (P.get x.fst.fst y.snd.fst ((ByteArray.mk #[]), false, [])).fst x.snd.fst)) (P.cond (P.inb y.snd.fst (P.len x.fst.fst)) (P.cond (P.room (P.add (P.len y.snd.snd.fst) (P.len [P.get x.fst.fst y.snd.fst ((ByteArray.mk #[]), false, [])])) 48) (some (Sum.inl (y.fst, P.wrap IntKind.i64 (P.add y.snd.fst (1 : Int)), P.app y.snd.snd.fst [P.get x.fst.fst y.snd.fst ((ByteArray.mk #[]), false, [])], y.snd.snd.snd))) none) none) (some (Sum.inl (y.fst, P.wrap IntKind.i64 (P.add y.snd.fst (1 : Int)), y.snd.snd.fst, y.snd.snd.snd)))) none)) (some (Sum.inr (Sum.inl (y.fst, y.snd.snd.fst, y.snd.snd.snd))))) (false, (0 : Int), [], x.fst.snd)) (P.either (fun (z : Bool × tO) => P.cond (P.not z.fst) (P.cond (P.room (P.add (P.len z.snd.fst) (P.len [x.snd])) 48) (some (P.app z.snd.fst [x.snd], z.snd.snd)) none) (some (z.snd.fst, z.snd.snd))) fun (r : tO) => some r)
theorem ref07_With_eq (k : Nat) (x : _) : evFn (EN k []) 6 Tryz.f90 [(4, ⟨[.var 6 (.d .bool), .var 7 (.d (.int .i64)), .box 5 [] (.s (.p (.o (.st (.pair .str (.pair .bool (.slice (.st (.pair (.int .i64) (.int .i64)))))))) (.d (.slice (.st (.pair (.int .i64) (.int .i64)))))))], [], (some (0, [.var 6 (.d .bool), .box 5 [] (.s (.p (.o (.st (.pair .str (.pair .bool (.slice (.st (.pair (.int .i64) (.int .i64)))))))) (.d (.slice (.st (.pair (.int .i64) (.int .i64)))))))]))⟩)] (.pair Ush Ufd) Ush x = ref07_With k x := by kernel_rfl
theorem ref07_With_spec (k : Nat) : SpecOk Tryz.prog GG 90 ⟨(.pair Ush Ufd), Ush, ref07_With k⟩ :=
 fn_spec (envE .nil) Tryz.func90 (fun x => (ref07_With_eq k x).symm)
noncomputable def ref07_Join : (k : Nat) → (Ty.D (.pair Ush Ush)) → Option (Ty.D Ush) := fun (k : Nat) (x : (Ush.pair Ush).D) => P.bind (ref07_May k x.fst) fun (r : Bool) => P.cond (P.not r) (some ([], [])) (P.bind (ref07_May k x.snd) fun (r : Bool) => P.cond (P.not r) (some ([], [])) (P.bind (ref06_Union k (x.fst.snd, x.snd.snd)) fun (r : tA) => P.bind (P.iter k (fun (y : Int × tO) => P.cond (P.ilt y.fst (P.wrap IntKind.i64 (P.add (P.len x.fst.fst) (P.len x.snd.fst)))) (P.cond (P.ilt y.fst (P.len x.fst.fst)) (P.cond (P.inb y.fst (P.len x.fst.fst)) (P.bind (ref07_Get k (x.fst, (P.get x.fst.fst y.fst ((ByteArray.mk #[]), false, [])).fst)) fun (r : (ByteArray × Bool × tA) × Bool) => P.bind (ref07_Get k (x.snd, (P.get x.fst.fst y.fst ((ByteArray.mk #[]), false, [])).fst)) fun (r_1 : (ByteArray × Bool × tA) × Bool) => P.cond r.snd (P.cond r_1.snd (P.cond r.fst.snd.fst (P.bind (ref06_Union k (r.fst.snd.snd, r_1.fst.snd.snd)) fun (r : tA) => P.bind (ref07_With k (y.snd, (P.get x.fst.fst y.fst ((ByteArray.mk #[]), false, [])).fst, r_1.fst.snd.fst, r)) fun (r : tO) => some (Sum.inl (P.wrap IntKind.i64 (P.add y.fst (1 : Int)), r))) (P.bind (ref06_Union k (r.fst.snd.snd, r_1.fst.snd.snd)) fun (r : tA) => P.bind (ref07_With k (y.snd, (P.get x.fst.fst y.fst ((ByteArray.mk #[]), false, [])).fst, false, r)) fun (r : tO) => some (Sum.inl (P.wrap IntKind.i64 (P.add y.fst (1 : Int)), r)))) (P.bind (ref06_Union k (r.fst.snd.snd, r_1.fst.snd.snd)) fun (r : tA) => P.bind (ref07_With k (y.snd, (P.get x.fst.fst y.fst ((ByteArray.mk #[]), false, [])).fst, false, r)) fun (r : tO) => some (Sum.inl (P.wrap IntKind.i64 (P.add y.fst (1 : Int)), r)))) (P.bind (ref06_Union k (r.fst.snd.snd, r_1.fst.snd.snd)) fun (r : tA) => P.bind (ref07_With k (y.snd, (P.get x.fst.fst y.fst ((ByteArray.mk #[]), false, [])).fst, false, r)) fun (r : tO) => some (Sum.inl (P.wrap IntKind.i64 (P.add y.fst (1 : Int)), r)))) none) (P.cond (P.inb (P.wrap IntKind.i64 (P.sub y.fst (P.len x.fst.fst))) (P.len x.snd.fst)) (P.bind (ref07_Get k (x.fst, (P.get x.snd.fst (P.wrap IntKind.i64 (P.sub y.fst (P.len x.fst.fst))) ((ByteArray.mk #[]), false, [])).fst)) fun (r : (ByteArray × Bool × tA) × Bool) => P.bind (ref07_Get k (x.snd, (P.get x.snd.fst (P.wrap IntKind.i64 (P.sub y.fst (P.len x.fst.fst))) ((ByteArray.mk #[]), false, [])).fst)) fun (r_1 : (ByteArray × Bool × tA) × Bool) => P.cond r.snd (P.cond r_1.snd (P.cond r.fst.snd.fst (P.bind (ref06_Union k (r.fst.snd.snd, r_1.fst.snd.snd)) fun (r : tA) => P.bind (ref07_With k (y.snd, (P.get x.snd.fst (P.wrap IntKind.i64 (P.sub y.fst (P.len x.fst.fst))) ((ByteArray.mk #[]), false, [])).fst, r_1.fst.snd.fst, r)) fun (r : tO) => some (Sum.inl (P.wrap IntKind.i64 (P.add y.fst (1 : Int)), r))) (P.bind (ref06_Union k (r.fst.snd.snd, r_1.fst.snd.snd)) fun (r : tA) => P.bind (ref07_With k (y.snd, (P.get x.snd.fst (P.wrap IntKind.i64 (P.sub y.fst (P.len x.fst.fst))) ((ByteArray.mk #[]), false, [])).fst, false, r)) fun (r : tO) => some (Sum.inl (P.wrap IntKind.i64 (P.add y.fst (1 : Int)), r)))) (P.bind (ref06_Union k (r.fst.snd.snd, r_1.fst.snd.snd)) fun (r : tA) => P.bind (ref07_With k (y.snd, (P.get x.snd.fst (P.wrap IntKind.i64 (P.sub y.fst (P.len x.fst.fst))) ((ByteArray.mk #[]), false, [])).fst, false, r)) fun (r : tO) => some (Sum.inl (P.wrap IntKind.i64 (P.add y.fst (1 : Int)), r)))) (P.bind (ref06_Union k (r.fst.snd.snd, r_1.fst.snd.snd)) fun (r : tA) => P.bind (ref07_With k (y.snd, (P.get x.snd.fst (P.wrap IntKind.i64 (P.sub y.fst (P.len x.fst.fst))) ((ByteArray.mk #[]), false, [])).fst, false, r)) fun (r : tO) => some (Sum.inl (P.wrap IntKind.i64 (P.add y.fst (1 : Int)), r)))) none)) (some (Sum.inr (Sum.inl y.snd)))) ((0 : Int), [], r)) (P.either (fun (z : tO) => some z) fun (r : tO) => some r)))
theorem ref07_Join_eq (k : Nat) (x : _) : evFn (EN k [(31, ⟨Ush, .bool, ref07_May k⟩), (33, ⟨(.pair (.slice Uat) (.slice Uat)), (.slice Uat), ref06_Union k⟩), (89, ⟨(.pair Ush .str), (.pair Ufd .bool), ref07_Get k⟩), (90, ⟨(.pair Ush Ufd), Ush, ref07_With k⟩)]) 6 Tryz.f57 [(5, ⟨[.var 6 (.d (.int .i64)), .box 5 [] (.d (.st (.pair (.slice (.st (.pair .str (.pair .bool (.slice (.st (.pair (.int .i64) (.int .i64)))))))) (.slice (.st (.pair (.int .i64) (.int .i64)))))))], [], (some (0, [.box 5 [] (.d (.st (.pair (.slice (.st (.pair .str (.pair .bool (.slice (.st (.pair (.int .i64) (.int .i64)))))))) (.slice (.st (.pair (.int .i64) (.int .i64)))))))]))⟩)] (.pair Ush Ush) Ush x = ref07_Join k x := by kernel_rfl
theorem ref07_Join_spec (k : Nat) : SpecOk Tryz.prog GG 57 ⟨(.pair Ush Ush), Ush, ref07_Join k⟩ :=
 fn_spec (envE (.cons (ref07_May_spec k) Tryz.func31 f31_ok <| .cons (ref06_Union_spec k) Tryz.func33 f33_ok <| .cons (ref07_Get_spec k) Tryz.func89 f89_ok <| .cons (ref07_With_spec k) Tryz.func90 f90_ok <| .nil)) Tryz.func57 (fun x => (ref07_Join_eq k x).symm)
noncomputable def ref08_Join : (k : Nat) → (Ty.D (.pair Ust Ust)) → Option (Ty.D Ust) := fun (k : Nat) (x : (Ust.pair Ust).D) => P.bind (ref08_May k x.fst) fun (r : Bool) => P.cond (P.not r) (some (false, [], [])) (P.bind (ref08_May k x.snd) fun (r : Bool) => P.cond (P.not r) (some (false, [], [])) (P.cond x.fst.fst (some x.snd) (P.cond x.snd.fst (some x.fst) (P.bind (P.iter k (fun (y : Int × tS) => P.cond (P.ilt y.fst (P.len x.fst.snd.fst)) (P.cond (P.inb y.fst (P.len x.fst.snd.fst)) (P.bind (ref08_Var k (x.fst, (P.get x.fst.snd.fst y.fst ((ByteArray.mk #[]), [])).fst)) fun (r : tA) => P.bind (ref08_Var k (x.snd, (P.get x.fst.snd.fst y.fst ((ByteArray.mk #[]), [])).fst)) fun (r_1 : tA) => P.bind (ref06_Union k (r, r_1)) fun (r : tA) => P.bind (ref08_Set k (y.snd, (P.get x.fst.snd.fst y.fst ((ByteArray.mk #[]), [])).fst, r)) fun (r : tS) => some (Sum.inl (P.wrap IntKind.i64 (P.add y.fst (1 : Int)), r))) none) (some (Sum.inr (Sum.inl y.snd)))) ((0 : Int), x.fst)) (P.either (fun (z : tS) => P.bind (P.iter k (fun (y : Int × tS) => P.cond (P.ilt y.fst (P.len x.snd.snd.fst)) (P.cond (P.inb y.fst (P.len x.snd.snd.fst)) (P.bind (ref08_Var k (x.fst, (P.get x.snd.snd.fst y.fst ((ByteArray.mk #[]), [])).fst)) fun (r : tA) => P.bind (ref08_Var k (x.snd, (P.get x.snd.snd.fst y.fst ((ByteArray.mk #[]), [])).fst)) fun (r_1 : tA) => P.bind (ref06_Union k (r, r_1)) fun (r : tA) => P.bind (ref08_Set k (y.snd, (P.get x.snd.snd.fst y.fst ((ByteArray.mk #[]), [])).fst, r)) fun (r : tS) => some (Sum.inl (P.wrap IntKind.i64 (P.add y.fst (1 : Int)), r))) none) (some (Sum.inr (Sum.inl y.snd)))) ((0 : Int), z)) (P.either (fun (z : tS) => P.bind (P.iter k (fun (y : Int × tS) => P.cond (P.ilt y.fst (P.len x.snd.snd.snd)) (P.cond (P.inb y.fst (P.len x.snd.snd.snd)) (P.bind (ref08_Loc k (x.fst, (P.get x.snd.snd.snd y.fst (((0 : Int), (0 : Int)), [], [])).fst)) fun (r : (tO) × Bool) => P.cond r.snd (P.cond (P.inb y.fst (P.len x.snd.snd.snd)) (P.bind (ref07_Join k (r.fst, (P.get x.snd.snd.snd y.fst (((0 : Int), (0 : Int)), [], [])).snd)) fun (r : tO) => P.cond (P.inb y.fst (P.len x.snd.snd.snd)) (P.bind (ref08_Put k (y.snd, (P.get x.snd.snd.snd y.fst (((0 : Int), (0 : Int)), [], [])).fst, r)) fun (r : tS) => some (Sum.inl (P.wrap IntKind.i64 (P.add y.fst (1 : Int)), r))) none) none) (P.cond (P.inb y.fst (P.len x.snd.snd.snd)) (P.cond (P.inb y.fst (P.len x.snd.snd.snd)) (P.bind (ref08_Put k (y.snd, (P.get x.snd.snd.snd y.fst (((0 : Int), (0 : Int)), [], [])).fst, (P.get x.snd.snd.snd y.fst (((0 : Int), (0 : Int)), [], [])).snd)) fun (r : tS) => some (Sum.inl (P.wrap IntKind.i64 (P.add y.fst (1 : Int)), r))) none) none)) none) (some (Sum.inr (Sum.inl y.snd)))) ((0 : Int), z)) (P.either (fun (z : tS) => some z) fun (r : tS) => some r)) fun (r : tS) => some r)) fun (r : tS) => some r)))))
theorem ref08_Join_eq (k : Nat) (x : _) : evFn (EN k [(12, ⟨(.pair Ust Uat), (.pair Ush .bool), ref08_Loc k⟩), (14, ⟨Ust, .bool, ref08_May k⟩), (17, ⟨(.pair Ust .str), (.slice Uat), ref08_Var k⟩), (27, ⟨(.pair Ust (.pair .str (.slice Uat))), Ust, ref08_Set k⟩), (29, ⟨(.pair Ust (.pair Uat Ush)), Ust, ref08_Put k⟩), (33, ⟨(.pair (.slice Uat) (.slice Uat)), (.slice Uat), ref06_Union k⟩), (57, ⟨(.pair Ush Ush), Ush, ref07_Join k⟩)]) 6 Tryz.f23 [(9, ⟨[.var 6 (.d (.int .i64)), .box 5 [] (.d (.st (.pair .bool (.pair (.slice (.st (.pair .str (.slice (.st (.pair (.int .i64) (.int .i64))))))) (.slice (.st (.pair (.st (.pair (.int .i64) (.int .i64))) (.st (.pair (.slice (.st (.pair .str (.pair .bool (.slice (.st (.pair (.int .i64) (.int .i64)))))))) (.slice (.st (.pair (.int .i64) (.int .i64)))))))))))))], [], (some (0, [.box 5 [] (.d (.st (.pair .bool (.pair (.slice (.st (.pair .str (.slice (.st (.pair (.int .i64) (.int .i64))))))) (.slice (.st (.pair (.st (.pair (.int .i64) (.int .i64))) (.st (.pair (.slice (.st (.pair .str (.pair .bool (.slice (.st (.pair (.int .i64) (.int .i64)))))))) (.slice (.st (.pair (.int .i64) (.int .i64)))))))))))))]))⟩), (14, ⟨[.var 8 (.d (.int .i64)), .box 5 [] (.d (.st (.pair .bool (.pair (.slice (.st (.pair .str (.slice (.st (.pair (.int .i64) (.int .i64))))))) (.slice (.st (.pair (.st (.pair (.int .i64) (.int .i64))) (.st (.pair (.slice (.st (.pair .str (.pair .bool (.slice (.st (.pair (.int .i64) (.int .i64)))))))) (.slice (.st (.pair (.int .i64) (.int .i64)))))))))))))], [], (some (2, [.box 5 [] (.d (.st (.pair .bool (.pair (.slice (.st (.pair .str (.slice (.st (.pair (.int .i64) (.int .i64))))))) (.slice (.st (.pair (.st (.pair (.int .i64) (.int .i64))) (.st (.pair (.slice (.st (.pair .str (.pair .bool (.slice (.st (.pair (.int .i64) (.int .i64)))))))) (.slice (.st (.pair (.int .i64) (.int .i64)))))))))))))]))⟩), (19, ⟨[.var 10 (.d (.int .i64)), .box 5 [] (.d (.st (.pair .bool (.pair (.slice (.st (.pair .str (.slice (.st (.pair (.int .i64) (.int .i64))))))) (.slice (.st (.pair (.st (.pair (.int .i64) (.int .i64))) (.st (.pair (.slice (.st (.pair .str (.pair .bool (.slice (.st (.pair (.int .i64) (.int .i64)))))))) (.slice (.st (.pair (.int .i64) (.int .i64)))))))))))))], [], (some (4, [.box 5 [] (.d (.st (.pair .bool (.pair (.slice (.st (.pair .str (.slice (.st (.pair (.int .i64) (.int .i64))))))) (.slice (.st (.pair (.st (.pair (.int .i64) (.int .i64))) (.st (.pair (.slice (.st (.pair .str (.pair .bool (.slice (.st (.pair (.int .i64) (.int .i64)))))))) (.slice (.st (.pair (.int .i64) (.int .i64)))))))))))))]))⟩)] (.pair Ust Ust) Ust x = ref08_Join k x := by kernel_rfl
theorem ref08_Join_spec (k : Nat) : SpecOk Tryz.prog GG 23 ⟨(.pair Ust Ust), Ust, ref08_Join k⟩ :=
 fn_spec (envE (.cons (ref08_Loc_spec k) Tryz.func12 f12_ok <| .cons (ref08_May_spec k) Tryz.func14 f14_ok <| .cons (ref08_Var_spec k) Tryz.func17 f17_ok <| .cons (ref08_Set_spec k) Tryz.func27 f27_ok <| .cons (ref08_Put_spec k) Tryz.func29 f29_ok <| .cons (ref06_Union_spec k) Tryz.func33 f33_ok <| .cons (ref07_Join_spec k) Tryz.func57 f57_ok <| .nil)) Tryz.func23 (fun x => (ref08_Join_eq k x).symm)
noncomputable def ref06_Within : (k : Nat) → (Ty.D (.pair (.slice Uat) (.slice Uat))) → Option (Ty.D .bool) := fun (k : Nat) (x : (Uat.slice.pair Uat.slice).D) => P.bind (P.iter k (fun (y : Int) => P.cond (P.ilt y (P.len x.fst)) (P.cond (P.inb y (P.len x.fst)) (P.bind (ref06_Has k (x.snd, P.get x.fst y ((0 : Int), (0 : Int)))) fun (r : Bool) => P.cond (P.not r) (some (Sum.inr (Sum.inr false))) (some (Sum.inl (P.wrap IntKind.i64 (P.add y (1 : Int)))))) none) (some (Sum.inr (Sum.inl PUnit.unit)))) (0 : Int)) (P.either (fun (z : PUnit) => some true) fun (r : Bool) => some r)
theorem ref06_Within_eq (k : Nat) (x : _) : evFn (EN k [(94, ⟨(.pair (.slice Uat) Uat), .bool, ref06_Has k⟩)]) 6 Tryz.f60 [(2, ⟨[.var 5 (.d (.int .i64))], [], (some (0, []))⟩)] (.pair (.slice Uat) (.slice Uat)) .bool x = ref06_Within k x := by kernel_rfl
theorem ref06_Within_spec (k : Nat) : SpecOk Tryz.prog GG 60 ⟨(.pair (.slice Uat) (.slice Uat)), .bool, ref06_Within k⟩ :=
 fn_spec (envE (.cons (ref06_Has_spec k) Tryz.func94 f94_ok <| .nil)) Tryz.func60 (fun x => (ref06_Within_eq k x).symm)
noncomputable def ref07_Within : (k : Nat) → (Ty.D (.pair Ush Ush)) → Option (Ty.D .bool) := fun (k : Nat) (x : (Ush.pair Ush).D) => P.bind (ref07_May k x.fst) fun (r : Bool) => P.cond (P.not r) (some false) (P.bind (ref07_May k x.snd) fun (r : Bool) => P.cond (P.not r) (some false) (P.bind (ref06_Within k (x.fst.snd, x.snd.snd)) fun (r : Bool) => P.cond (P.not r) (some false) (P.bind (P.iter k (fun (y : Int) => P.cond (P.ilt y (P.len x.fst.fst)) (P.cond (P.inb y (P.len x.fst.fst)) (P.bind (ref07_Get k (x.snd, (P.get x.fst.fst y ((ByteArray.mk #[]), false, [])).fst)) fun (r : (ByteArray × Bool × tA) × Bool) => P.cond (P.not r.snd) (some (Sum.inr (Sum.inr false))) (P.cond (P.inb y (P.len x.fst.fst)) (P.bind (ref06_Within k ((P.get x.fst.fst y ((ByteArray.mk #[]), false, [])).snd.snd, r.fst.snd.snd)) fun (r_1 : Bool) => P.cond (P.not r_1) (some (Sum.inr (Sum.inr false))) (P.cond r.fst.snd.fst (P.cond (P.inb y (P.len x.fst.fst)) (P.cond (P.not (P.get x.fst.fst y ((ByteArray.mk #[]), false, [])).snd.fst) (some (Sum.inr (Sum.inr false))) (some (Sum.inl (P.wrap IntKind.i64 (P.add y (1 : Int)))))) none) (some (Sum.inl (P.wrap IntKind.i64 (P.add y (1 : Int))))))) none)) none) (some (Sum.inr (Sum.inl PUnit.unit)))) (0 : Int)) (P.either (fun (z : PUnit) => P.bind (P.iter k (fun (y : Int) => P.cond (P.ilt y (P.len x.snd.fst)) (P.cond (P.inb y (P.len x.snd.fst)) (P.bind (ref07_Get k (x.fst, (P.get x.snd.fst y ((ByteArray.mk #[]), false, [])).fst)) fun (r : (ByteArray × Bool × tA) × Bool) => P.cond (P.inb y (P.len x.snd.fst)) (P.cond (P.get x.snd.fst y ((ByteArray.mk #[]), false, [])).snd.fst (P.cond (P.not r.snd) (some (Sum.inr (Sum.inr false))) (some (Sum.inl (P.wrap IntKind.i64 (P.add y (1 : Int)))))) (some (Sum.inl (P.wrap IntKind.i64 (P.add y (1 : Int)))))) none) none) (some (Sum.inr (Sum.inl PUnit.unit)))) (0 : Int)) (P.either (fun (z : PUnit) => some true) fun (r : Bool) => some r)) fun (r : Bool) => some r))))
theorem ref07_Within_eq (k : Nat) (x : _) : evFn (EN k [(31, ⟨Ush, .bool, ref07_May k⟩), (60, ⟨(.pair (.slice Uat) (.slice Uat)), .bool, ref06_Within k⟩), (89, ⟨(.pair Ush .str), (.pair Ufd .bool), ref07_Get k⟩)]) 6 Tryz.f61 [(4, ⟨[.var 5 (.d (.int .i64))], [], (some (0, []))⟩), (10, ⟨[.var 8 (.d (.int .i64))], [], (some (2, []))⟩)] (.pair Ush Ush) .bool x = ref07_Within k x := by kernel_rfl
theorem ref07_Within_spec (k : Nat) : SpecOk Tryz.prog GG 61 ⟨(.pair Ush Ush), .bool, ref07_Within k⟩ :=
 fn_spec (envE (.cons (ref07_May_spec k) Tryz.func31 f31_ok <| .cons (ref06_Within_spec k) Tryz.func60 f60_ok <| .cons (ref07_Get_spec k) Tryz.func89 f89_ok <| .nil)) Tryz.func61 (fun x => (ref07_Within_eq k x).symm)
noncomputable def ref08_Within : (k : Nat) → (Ty.D (.pair Ust Ust)) → Option (Ty.D .bool) := fun (k : Nat) (x : (Ust.pair Ust).D) => P.bind (ref08_May k x.fst) fun (r : Bool) => P.cond (P.not r) (some false) (P.bind (ref08_May k x.snd) fun (r : Bool) => P.cond (P.not r) (some false) (P.cond x.fst.fst (some true) (P.cond x.snd.fst (some false) (P.bind (P.iter k (fun (y : Int) => P.cond (P.ilt y (P.len x.fst.snd.fst)) (P.cond (P.inb y (P.len x.fst.snd.fst)) (P.cond (P.inb y (P.len x.fst.snd.fst)) (P.bind (ref08_Var k (x.snd, (P.get x.fst.snd.fst y ((ByteArray.mk #[]), [])).fst)) fun (r : tA) => P.bind (ref06_Within k ((P.get x.fst.snd.fst y ((ByteArray.mk #[]), [])).snd, r)) fun (r : Bool) => P.cond (P.not r) (some (Sum.inr (Sum.inr false))) (some (Sum.inl (P.wrap IntKind.i64 (P.add y (1 : Int)))))) none) none) (some (Sum.inr (Sum.inl PUnit.unit)))) (0 : Int)) (P.either (fun (z : PUnit) => P.bind (P.iter k (fun (y : Int) => P.cond (P.ilt y (P.len x.snd.snd.fst)) (P.cond (P.inb y (P.len x.snd.snd.fst)) (P.bind (ref08_Var k (x.fst, (P.get x.snd.snd.fst y ((ByteArray.mk #[]), [])).fst)) fun (r : tA) => P.cond (P.inb y (P.len x.snd.snd.fst)) (P.bind (ref06_Within k (r, (P.get x.snd.snd.fst y ((ByteArray.mk #[]), [])).snd)) fun (r : Bool) => P.cond (P.not r) (some (Sum.inr (Sum.inr false))) (some (Sum.inl (P.wrap IntKind.i64 (P.add y (1 : Int)))))) none) none) (some (Sum.inr (Sum.inl PUnit.unit)))) (0 : Int)) (P.either (fun (z : PUnit) => P.bind (P.iter k (fun (y : Int) => P.cond (P.ilt y (P.len x.fst.snd.snd)) (P.cond (P.inb y (P.len x.fst.snd.snd)) (P.bind (ref08_Loc k (x.snd, (P.get x.fst.snd.snd y (((0 : Int), (0 : Int)), [], [])).fst)) fun (r : (tO) × Bool) => P.cond (P.not r.snd) (some (Sum.inr (Sum.inr false))) (P.cond (P.inb y (P.len x.fst.snd.snd)) (P.bind (ref07_Within k ((P.get x.fst.snd.snd y (((0 : Int), (0 : Int)), [], [])).snd, r.fst)) fun (r : Bool) => P.cond (P.not r) (some (Sum.inr (Sum.inr false))) (some (Sum.inl (P.wrap IntKind.i64 (P.add y (1 : Int)))))) none)) none) (some (Sum.inr (Sum.inl PUnit.unit)))) (0 : Int)) (P.either (fun (z : PUnit) => some true) fun (r : Bool) => some r)) fun (r : Bool) => some r)) fun (r : Bool) => some r)))))
theorem ref08_Within_eq (k : Nat) (x : _) : evFn (EN k [(12, ⟨(.pair Ust Uat), (.pair Ush .bool), ref08_Loc k⟩), (14, ⟨Ust, .bool, ref08_May k⟩), (17, ⟨(.pair Ust .str), (.slice Uat), ref08_Var k⟩), (60, ⟨(.pair (.slice Uat) (.slice Uat)), .bool, ref06_Within k⟩), (61, ⟨(.pair Ush Ush), .bool, ref07_Within k⟩)]) 6 Tryz.f25 [(8, ⟨[.var 5 (.d (.int .i64))], [], (some (0, []))⟩), (13, ⟨[.var 6 (.d (.int .i64))], [], (some (2, []))⟩), (18, ⟨[.var 7 (.d (.int .i64))], [], (some (4, []))⟩)] (.pair Ust Ust) .bool x = ref08_Within k x := by kernel_rfl
theorem ref08_Within_spec (k : Nat) : SpecOk Tryz.prog GG 25 ⟨(.pair Ust Ust), .bool, ref08_Within k⟩ :=
 fn_spec (envE (.cons (ref08_Loc_spec k) Tryz.func12 f12_ok <| .cons (ref08_May_spec k) Tryz.func14 f14_ok <| .cons (ref08_Var_spec k) Tryz.func17 f17_ok <| .cons (ref06_Within_spec k) Tryz.func60 f60_ok <| .cons (ref07_Within_spec k) Tryz.func61 f61_ok <| .nil)) Tryz.func25 (fun x => (ref08_Within_eq k x).symm)
noncomputable def law08_StateTells : (k : Nat) → (Ty.D (.pair Ust (.pair Ust Uky))) → Option (Ty.D .bool) := fun (k : Nat) (x : (Ust.pair (Ust.pair Uky)).D) => P.bind (ref08_Small k x.fst) fun (r : Bool) => P.cond (P.not r) (P.bind (law08_fixed k PUnit.unit) fun (r : Bool) => some r) (P.bind (ref08_Small k x.snd.fst) fun (r : Bool) => P.cond (P.not r) (P.bind (law08_fixed k PUnit.unit) fun (r : Bool) => some r) (P.bind (state_Loc k (x.fst, x.snd.snd.snd)) fun (r : (tO) × Bool) => P.bind (ref08_Loc k (x.fst, x.snd.snd.snd)) fun (r_1 : (tO) × Bool) => P.bind (law08_fixed k PUnit.unit) fun (r_2 : Bool) => P.cond r_2 (P.bind (state_May k x.fst) fun (r_3 : Bool) => P.bind (ref08_May k x.fst) fun (r_4 : Bool) => P.cond (P.beq r_3 r_4) (P.bind (state_Var k (x.fst, x.snd.snd.fst)) fun (r_5 : tA) => P.bind (ref08_Var k (x.fst, x.snd.snd.fst)) fun (r_6 : tA) => P.bind (ref06_Same k (r_5, r_6)) fun (r_7 : Bool) => P.cond r_7 (P.bind (ref07_Same k (r.fst, r_1.fst)) fun (r_8 : Bool) => P.cond r_8 (P.cond (P.beq r.snd r_1.snd) (P.bind (state_Text k x.fst) fun (r : ByteArray) => P.bind (ref08_Text k x.fst) fun (r_9 : ByteArray) => P.cond (P.seq r r_9) (P.bind (state_Join k (x.fst, x.snd.fst)) fun (r : tS) => P.bind (ref08_Join k (x.fst, x.snd.fst)) fun (r_10 : tS) => P.bind (ref08_Same k (r, r_10)) fun (r : Bool) => P.cond r (P.bind (state_Within k (x.fst, x.snd.fst)) fun (r : Bool) => P.bind (ref08_Within k (x.fst, x.snd.fst)) fun (r_11 : Bool) => some (P.beq r r_11)) (some false)) (some false)) (some false)) (some false)) (some false)) (some false)) (some false)))
theorem law08_StateTells_eq (k : Nat) (x : _) : evFn (EN k [(9, ⟨Ust, .bool, ref08_Small k⟩), (10, ⟨.unit, .bool, law08_fixed k⟩), (11, ⟨(.pair Ust Uat), (.pair Ush .bool), state_Loc k⟩), (12, ⟨(.pair Ust Uat), (.pair Ush .bool), ref08_Loc k⟩), (13, ⟨Ust, .bool, state_May k⟩), (14, ⟨Ust, .bool, ref08_May k⟩), (15, ⟨(.pair (.slice Uat) (.slice Uat)), .bool, ref06_Same k⟩), (16, ⟨(.pair Ust .str), (.slice Uat), state_Var k⟩), (17, ⟨(.pair Ust .str), (.slice Uat), ref08_Var k⟩), (18, ⟨(.pair Ush Ush), .bool, ref07_Same k⟩), (19, ⟨Ust, .str, state_Text k⟩), (20, ⟨Ust, .str, ref08_Text k⟩), (21, ⟨(.pair Ust Ust), .bool, ref08_Same k⟩), (22, ⟨(.pair Ust Ust), Ust, state_Join k⟩), (23, ⟨(.pair Ust Ust), Ust, ref08_Join k⟩), (24, ⟨(.pair Ust Ust), .bool, state_Within k⟩), (25, ⟨(.pair Ust Ust), .bool, ref08_Within k⟩)]) 6 Tryz.f3 [] (.pair Ust (.pair Ust Uky)) .bool x = law08_StateTells k x := by kernel_rfl
theorem law08_StateTells_spec (k : Nat) : SpecOk Tryz.prog GG 3 ⟨(.pair Ust (.pair Ust Uky)), .bool, law08_StateTells k⟩ :=
 fn_spec (envE (.cons (ref08_Small_spec k) Tryz.func9 f9_ok <| .cons (law08_fixed_spec k) Tryz.func10 f10_ok <| .cons (state_Loc_spec k) Tryz.func11 f11_ok <| .cons (ref08_Loc_spec k) Tryz.func12 f12_ok <| .cons (state_May_spec k) Tryz.func13 f13_ok <| .cons (ref08_May_spec k) Tryz.func14 f14_ok <| .cons (ref06_Same_spec k) Tryz.func15 f15_ok <| .cons (state_Var_spec k) Tryz.func16 f16_ok <| .cons (ref08_Var_spec k) Tryz.func17 f17_ok <| .cons (ref07_Same_spec k) Tryz.func18 f18_ok <| .cons (state_Text_spec k) Tryz.func19 f19_ok <| .cons (ref08_Text_spec k) Tryz.func20 f20_ok <| .cons (ref08_Same_spec k) Tryz.func21 f21_ok <| .cons (state_Join_spec k) Tryz.func22 f22_ok <| .cons (ref08_Join_spec k) Tryz.func23 f23_ok <| .cons (state_Within_spec k) Tryz.func24 f24_ok <| .cons (ref08_Within_spec k) Tryz.func25 f25_ok <| .nil)) Tryz.func3 (fun x => (law08_StateTells_eq k x).symm)
end
section
namespace Go.PL
open Go.PG
theorem cond_eq {α : Type} (b : Bool) (x y : α) : P.cond b x y = if b = true then x else y := by cases b <;> rfl
theorem cond_true {α : Type} (x y : α) : P.cond true x y = x := rfl
theorem cond_false {α : Type} (x y : α) : P.cond false x y = y := rfl
theorem bind_some {α β : Type} (a : α) (f : α → Option β) : P.bind (some a) f = f a := rfl
theorem either_inl {α β γ : Type} (f : α → γ) (g : β → γ) (a : α) : P.either f g (.inl a) = f a := rfl
theorem either_inr {α β γ : Type} (f : α → γ) (g : β → γ) (b : β) : P.either f g (.inr b) = g b := rfl
section
variable {τ ρ : Type} {f : τ → Option (τ ⊕ ρ)}
theorem iter_succ (k : Nat) (x : τ) : P.iter (k + 1) f x = match f x with
  | none => none
  | some (.inl y) => P.iter k f y
  | some (.inr r) => some r := rfl
theorem iter_step {k : Nat} {x y : τ} (hk : 0 < k) (h : f x = some (.inl y)) : P.iter k f x = P.iter (k - 1) f y := by
 obtain ⟨k, rfl⟩ : ∃ m, k = m + 1 := ⟨k - 1, by omega⟩
 rw [iter_succ, h]; rfl
theorem iter_done {k : Nat} {x : τ} {r : ρ} (hk : 0 < k) (h : f x = some (.inr r)) : P.iter k f x = some r := by
 obtain ⟨k, rfl⟩ : ∃ m, k = m + 1 := ⟨k - 1, by omega⟩
 rw [iter_succ, h]
theorem iter_run (s : Nat → τ) (r : ρ) : ∀ (n i k : Nat), n < k → (∀ j, j < n → f (s (i + j)) = some (.inl (s (i + j + 1)))) → f (s (i + n)) = some (.inr r) → P.iter k f (s i) = some r := by
 intro n
 induction n with
 | zero => intro i k hk _ he; exact iter_done (by omega) (by simpa using he)
 | succ n ih =>
  intro i k hk hs he
  rw [iter_step (x := s i) (y := s (i + 1)) (by omega) (by simpa using hs 0 (by omega))]
  refine ih (i + 1) (k - 1) (by omega) (fun j hj => ?_) (by rw [show i + 1 + n = i + (n + 1) by omega]; exact he)
  have := hs (j + 1) (by omega)
  rw [show i + 1 + j = i + (j + 1) by omega]
  exact this
theorem iter_find {f : Int → Option (Int ⊕ ρ)} {n : Nat} {e : ρ} (g : Nat → Option ρ) (hs : ∀ i : Nat, i < n → f (i : Int) = some (match g i with
  | none => .inl ((i + 1 : Nat) : Int)
  | some r => .inr r)) (he : f (n : Int) = some (.inr e)) : ∀ (d i k : Nat), i + d = n → d < k → P.iter k f (i : Int) = some (((List.range' i d).findSome? g).getD e) := by
 intro d
 induction d with
 | zero =>
  intro i k hi hk
  obtain rfl : i = n := by omega
  exact iter_done (by omega) he
 | succ d ih =>
  intro i k hi hk
  have h := hs i (by omega)
  rw [List.range'_succ, List.findSome?_cons]
  cases q : g i with
  | none =>
   rw [q] at h
   simp only at h ⊢
   rw [iter_step (by omega) h]
   exact ih (i + 1) (k - 1) (by omega) (by omega)
  | some r =>
   rw [q] at h
   simp only at h
   rw [iter_done (by omega) h]
   rfl
theorem iter_find0 {f : Int → Option (Int ⊕ ρ)} {n : Nat} {e : ρ} (g : Nat → Option ρ) (k : Nat) (hs : ∀ i : Nat, i < n → f (i : Int) = some (match g i with
  | none => .inl ((i + 1 : Nat) : Int)
  | some r => .inr r)) (he : f (n : Int) = some (.inr e)) (hk : n < k) : P.iter k f 0 = some (((List.range n).findSome? g).getD e) := by
 have := iter_find g hs he n 0 k (by omega) hk
 rw [List.range_eq_range']
 exact this
theorem iter_all {f : Int → Option (Int ⊕ ρ)} {n : Nat} {e r : ρ} (p : Nat → Prop) [DecidablePred p] (k : Nat) (hs : ∀ i : Nat, i < n → f (i : Int) = some (if p i then .inl ((i + 1 : Nat) : Int) else .inr r)) (he : f (n : Int) = some (.inr e)) (hk : n < k) :
  P.iter k f 0 = some (if ∀ i, i < n → p i then e else r) := by
 rw [iter_find0 (n := n) (e := e) (fun i => if p i then none else some r) k (fun i hi => by rw [hs i hi]; by_cases h : p i <;> simp [h]) he hk]
 by_cases h : ∀ i, i < n → p i
 ·rw [if_pos h]
  have : (List.range n).findSome? (fun i => if p i then none else some r) = none := by
   rw [List.findSome?_eq_none_iff]
   intro i hi
   simp [h i (List.mem_range.1 hi)]
  rw [this]; rfl
 ·rw [if_neg h]
  have hh : ∃ i, i < n ∧ ¬ p i := by
   apply Classical.byContradiction
   intro q
   exact h fun i hi => Classical.byContradiction fun z => q ⟨i, hi, z⟩
  obtain ⟨i, hi, hp⟩ := hh
  have : ∃ y, (List.range n).findSome? (fun i => if p i then none else some r) = some y := by
   rw [← Option.isSome_iff_exists, List.findSome?_isSome_iff]
   exact ⟨i, List.mem_range.2 hi, by simp [hp]⟩
  obtain ⟨y, hy⟩ := this
  rw [hy]
  obtain ⟨j, _, hj⟩ := List.exists_of_findSome?_eq_some hy
  by_cases q : p j
  ·simp [q] at hj
  ·simp [q] at hj; simp [hj]
end
theorem ieq_iff {x y : Int} : P.ieq x y = true ↔ x = y := by simp [P.ieq]
theorem ieq_eq (x y : Int) : P.ieq x y = decide (x = y) := by rw [Bool.eq_iff_iff]; simp [P.ieq]
theorem ilt_iff {x y : Int} : P.ilt x y = true ↔ x < y := by simp [P.ilt]
theorem ile_iff {x y : Int} : P.ile x y = true ↔ x ≤ y := by simp [P.ile]
theorem inb_iff {i n : Int} : P.inb i n = true ↔ 0 ≤ i ∧ i < n := by simp [P.inb]
theorem wrap_i64 {x : Int} (h0 : -9223372036854775808 ≤ x) (h1 : x < 9223372036854775808) : P.wrap .i64 x = x := by
 show IntKind.i64.wrap x = x
 simp only [IntKind.wrap, IntKind.bits, IntKind.signed]
 simp
 omega
theorem wrap_nat {n : Nat} (h : n < 9223372036854775808) : P.wrap .i64 (n : Int) = n := wrap_i64 (by omega) (by omega)
theorem wrap_succ {n : Nat} (h : n + 1 < 9223372036854775808) : P.wrap .i64 (P.add (n : Int) 1) = ((n + 1 : Nat) : Int) := by
 rw [wrap_i64 (by simp [P.add]; omega) (by simp [P.add]; omega)]; simp [P.add]
theorem wrap_u64 {x : Int} (h0 : 0 ≤ x) (h1 : x < 18446744073709551616) : P.wrap .u64 x = x := by
 show IntKind.u64.wrap x = x
 simp only [IntKind.wrap, IntKind.bits, IntKind.signed]
 simp
 omega
theorem wrap_pred {n : Nat} (h0 : 0 < n) (h : n < 9223372036854775808) : P.wrap .i64 (P.sub (n : Int) 1) = ((n - 1 : Nat) : Int) := by
 rw [wrap_i64 (by simp [P.sub]; omega) (by simp [P.sub]; omega)]; simp [P.sub]; omega
theorem not_iff {b : Bool} : P.not b = true ↔ ¬ b = true := by cases b <;> simp [P.not]
theorem and_iff {a b : Bool} : P.and a b = true ↔ a = true ∧ b = true := by simp [P.and]
theorem beq_iff {a b : Bool} : P.beq a b = true ↔ a = b := by simp [P.beq]
theorem cut_iff {l u n : Int} : P.cut l u n = true ↔ 0 ≤ l ∧ l ≤ u ∧ u ≤ n := by simp [P.cut, and_assoc]
theorem room_iff {n : Int} {b : Nat} : P.room n b = true ↔ n.toNat * b ≤ 140737488355328 := by simp [P.room]
theorem room_nat {a b n : Nat} : P.room (P.add (a : Int) (b : Int)) n = true ↔ (a + b) * n ≤ 140737488355328 := by
 rw [room_iff]
 have : (P.add (a : Int) (b : Int)).toNat = a + b := by simp [P.add]; omega
 rw [this]
theorem get_nat {α : Type} (l : List α) (i : Nat) (d : α) : P.get l (i : Int) d = l.getD i d := by simp [P.get]
theorem get_lt {α : Type} (l : List α) {i : Nat} (h : i < l.length) (d : α) : P.get l (i : Int) d = l[i] := by simp [P.get, h]
theorem len_eq {α : Type} (l : List α) : P.len l = (l.length : Int) := rfl
def ltS (a b : ByteArray) : Prop := a.data.toList < b.data.toList
instance (a b : ByteArray) : Decidable (ltS a b) := inferInstanceAs (Decidable (a.data.toList < b.data.toList))
theorem ba_ext {a b : ByteArray} (h : a.data.toList = b.data.toList) : a = b := by
 cases a; cases b; simp at h; simp [h]
theorem bytesLess_eq : ∀ (x y : List UInt8), Op.bytesLess x y = decide (x < y)
 | [], [] => by simp [Op.bytesLess]
 | _ :: _, [] => by simp [Op.bytesLess]
 | [], _ :: _ => by simp [Op.bytesLess]
 | a :: x, b :: y => by
  rw [Op.bytesLess, bytesLess_eq x y]
  simp only [List.cons_lt_cons_iff]
  by_cases h1 : a < b <;> by_cases h2 : a = b <;> by_cases h3 : x < y <;> simp [h1, h2, h3]
theorem slt_iff {a b : ByteArray} : P.slt a b = true ↔ ltS a b := by
 unfold P.slt ltS
 rw [bytesLess_eq, ByteArray.toList_eq, ByteArray.toList_eq]
 simp
theorem seq_iff {a b : ByteArray} : P.seq a b = true ↔ a = b := by
 unfold P.seq
 rw [ByteArray.toList_eq, ByteArray.toList_eq]
 simp only [beq_iff_eq]
 exact ⟨ba_ext, fun h => by rw [h]⟩
theorem sle_iff {a b : ByteArray} : P.sle a b = true ↔ (ltS a b ∨ a = b) := by
 have h1 : Op.bytesLess a.toList b.toList = P.slt a b := rfl
 have h2 : (a.toList == b.toList) = P.seq a b := rfl
 unfold P.sle
 rw [h1, h2, Bool.or_eq_true, slt_iff, seq_iff]
theorem ltS_irrefl (a : ByteArray) : ¬ ltS a a := List.lt_irrefl _
theorem ltS_trans {a b c : ByteArray} (h1 : ltS a b) (h2 : ltS b c) : ltS a c := List.lt_trans h1 h2
theorem ltS_asymm {a b : ByteArray} (h1 : ltS a b) : ¬ ltS b a := List.lt_asymm h1
theorem ltS_tri (a b : ByteArray) : ltS a b ∨ a = b ∨ ltS b a := by
 by_cases h1 : ltS a b
 ·exact .inl h1
 ·by_cases h2 : ltS b a
  ·exact .inr (.inr h2)
  ·exact .inr (.inl (ba_ext (List.le_antisymm (List.not_lt.1 h2) (List.not_lt.1 h1))))
theorem cmp_spec : ∀ (x y : List UInt8), (Lib.compareBytes x y < 0 ↔ x < y) ∧ (Lib.compareBytes x y = 0 ↔ x = y) ∧ -1 ≤ Lib.compareBytes x y ∧ Lib.compareBytes x y ≤ 1
 | [], [] => by simp [Lib.compareBytes]
 | [], _ :: _ => by simp [Lib.compareBytes]
 | _ :: _, [] => by simp [Lib.compareBytes]
 | a :: x, b :: y => by
  have ih := cmp_spec x y
  simp only [Lib.compareBytes, List.cons_lt_cons_iff, List.cons.injEq]
  by_cases h1 : a < b
  ·have : a ≠ b := fun h => by subst h; exact absurd h1 (by simp)
   simp [h1, this]
  ·by_cases h2 : b < a
   ·have : a ≠ b := fun h => by subst h; exact absurd h2 (by simp)
    simp [h1, h2, this]
   ·have : a = b := UInt8.le_antisymm (UInt8.not_lt.1 h2) (UInt8.not_lt.1 h1)
    subst this
    simp only [h1, if_false, true_and, false_or]
    exact ih
def cmpS (a b : ByteArray) : Int := Lib.compareBytes a.data.toList b.data.toList
theorem cmpS_lt {a b : ByteArray} : cmpS a b < 0 ↔ ltS a b := (cmp_spec _ _).1
theorem cmpS_eq {a b : ByteArray} : cmpS a b = 0 ↔ a = b := (cmp_spec _ _).2.1.trans ⟨ba_ext, fun h => by rw [h]⟩
end Go.PL
end
section
open Go Go.PG Go.PL
set_option linter.unusedVariables false
namespace Go.PL
noncomputable def compactT (k : Nat) (ys : List (Int × Int)) : Option (List (Int × Int)) := P.cond (P.ilt (P.len ys) ((2 : Int))) (some ys) (P.bind (P.iter k (fun (y : Int × List (Int × Int)) => P.cond (P.ilt y.fst (P.len y.snd)) (P.cond (P.inb y.fst (P.len y.snd)) (P.cond (P.inb (P.wrap IntKind.i64 (P.sub y.fst ((1 : Int)))) (P.len y.snd)) (P.cond (P.and (P.ieq (P.get y.snd y.fst ((0 : Int), (0 : Int))).fst (P.get y.snd (P.wrap IntKind.i64 (P.sub y.fst ((1 : Int)))) ((0 : Int), (0 : Int))).fst) (P.ieq (P.get y.snd y.fst ((0 : Int), (0 : Int))).snd (P.get y.snd (P.wrap IntKind.i64 (P.sub y.fst ((1 : Int)))) ((0 : Int), (0 : Int))).snd)) (P.cond (P.cut y.fst (P.len y.snd) (P.len y.snd)) (P.bind (P.iter k (fun (y_1 : Int × Int × List (Int × Int)) => P.cond (P.ilt y_1.snd.fst (P.sub (P.len y.snd) y.fst)) (P.cond (P.inb y_1.snd.fst (P.sub (P.len y.snd) y.fst)) (P.cond (P.inb (P.wrap IntKind.i64 (P.sub y_1.snd.fst ((1 : Int)))) (P.sub (P.len y.snd) y.fst)) (P.cond (P.not (P.and (P.ieq (P.get y_1.snd.snd (P.add y.fst y_1.snd.fst) ((0 : Int), (0 : Int))).fst (P.get y_1.snd.snd (P.add y.fst (P.wrap IntKind.i64 (P.sub y_1.snd.fst ((1 : Int))))) ((0 : Int), (0 : Int))).fst) (P.ieq (P.get y_1.snd.snd (P.add y.fst y_1.snd.fst) ((0 : Int), (0 : Int))).snd (P.get y_1.snd.snd (P.add y.fst (P.wrap IntKind.i64 (P.sub y_1.snd.fst ((1 : Int))))) ((0 : Int), (0 : Int))).snd))) (P.cond (P.inb y_1.snd.fst (P.sub (P.len y.snd) y.fst)) (P.cond (P.inb y_1.fst (P.len y_1.snd.snd)) (some (Sum.inl (P.wrap IntKind.i64 (P.add y_1.fst ((1 : Int))), P.wrap IntKind.i64 (P.add y_1.snd.fst ((1 : Int))), P.set y_1.snd.snd y_1.fst (P.get y_1.snd.snd (P.add y.fst y_1.snd.fst) ((0 : Int), (0 : Int)))))) none) none) (some (Sum.inl (y_1.fst, P.wrap IntKind.i64 (P.add y_1.snd.fst ((1 : Int))), y_1.snd.snd)))) none) none) (some (Sum.inr (Sum.inl (y_1.fst, y_1.snd.snd))))) (y.fst, (1 : Int), y.snd)) (P.either (fun (z : Int × List (Int × Int)) => P.cond (P.cut z.fst (P.len z.snd) (P.len z.snd)) (P.cond (P.cut ((0 : Int)) z.fst (P.len (P.fill z.snd z.fst (P.sub (P.len z.snd) z.fst) ((0 : Int), (0 : Int))))) (some (Sum.inr (Sum.inr (P.sub_ (P.fill z.snd z.fst (P.sub (P.len z.snd) z.fst) ((0 : Int), (0 : Int))) ((0 : Int)) z.fst)))) none) none) fun (r : Int × List (Int × Int) ⊕ List (Int × Int) ⊕ List (Int × Int)) => some r)) none) (some (Sum.inl (P.wrap IntKind.i64 (P.add y.fst ((1 : Int))), y.snd)))) none) none) (some (Sum.inr (Sum.inl y.snd)))) ((1 : Int), ys)) (P.either (fun (z : List (Int × Int)) => some z) fun (r : List (Int × Int)) => some r))
noncomputable def shiftT (k : Nat) (s : Int) (x : List (Int × Int)) : Option (List (Int × Int)) := (P.bind (P.iter k (fun (y : Int × Int × List (Int × Int)) => P.cond (P.ilt y.snd.fst (P.len y.snd.snd)) (P.cond (P.inb y.snd.fst (P.len y.snd.snd)) (P.bind (atoms_Norm_1 k (P.get y.snd.snd y.snd.fst ((0 : Int), (0 : Int)))) fun (r : Bool) => P.cond (P.not r) (P.cond (P.inb y.fst (P.len y.snd.snd)) (some (Sum.inl (P.wrap IntKind.i64 (P.add y.fst ((1 : Int))), P.wrap IntKind.i64 (P.add y.snd.fst ((1 : Int))), P.set y.snd.snd y.fst (P.get y.snd.snd y.snd.fst ((0 : Int), (0 : Int)))))) none) (some (Sum.inl (y.fst, P.wrap IntKind.i64 (P.add y.snd.fst ((1 : Int))), y.snd.snd)))) none) (some (Sum.inr (Sum.inl (y.fst, y.snd.snd))))) (s, P.wrap IntKind.i64 (P.add s ((1 : Int))), P.app [] x)) (P.either (fun (z : Int × List (Int × Int)) => P.cond (P.cut z.fst (P.len z.snd) (P.len z.snd)) (P.cond (P.cut ((0 : Int)) z.fst (P.len (P.fill z.snd z.fst (P.sub (P.len z.snd) z.fst) ((0 : Int), (0 : Int))))) (P.bind (sortF (P.sub_ (P.fill z.snd z.fst (P.sub (P.len z.snd) z.fst) ((0 : Int), (0 : Int))) ((0 : Int)) z.fst)) fun (ys : List (Int × Int)) => compactT k ys) none) none) fun (r : List (Int × Int)) => some r))
noncomputable def delT (k : Nat) (x : List (Int × Int)) : Option (List (Int × Int)) := (P.bind (P.iter k (fun (y : Int) => P.cond (P.ilt y (P.len (P.app [] x))) (P.cond (P.inb y (P.len (P.app [] x))) (P.bind (atoms_Norm_1 k (P.get (P.app [] x) y ((0 : Int), (0 : Int)))) fun (r : Bool) => P.cond r (P.map (fun (r : List (Int × Int)) => Sum.inr (Sum.inr r)) (P.cond (P.ieq y ((-1 : Int))) (P.bind (sortF (P.app [] x)) fun (ys : List (Int × Int)) => compactT k ys) (shiftT k y x))) (some (Sum.inl (P.wrap IntKind.i64 (P.add y ((1 : Int))))))) none) (some (Sum.inr (Sum.inl PUnit.unit)))) ((0 : Int))) (P.either (fun (z : PUnit) => P.cond (P.ieq ((-1 : Int)) ((-1 : Int))) (P.bind (sortF (P.app [] x)) fun (ys : List (Int × Int)) => compactT k ys) (shiftT k (-1 : Int) x)) fun (r : List (Int × Int)) => some r))
noncomputable def nilT (k : Nat) : Option (List (Int × Int)) := (P.bind (P.iter k (fun (y : Int) => P.cond (P.ilt y ((0 : Int))) none (some (Sum.inr (Sum.inl PUnit.unit)))) ((0 : Int))) (P.either (fun (z : PUnit) => P.cond (P.ieq ((-1 : Int)) ((-1 : Int))) (P.bind (sortF []) fun (x : List (Int × Int)) => P.cond (P.ilt ((0 : Int)) ((2 : Int))) (some []) (P.bind (P.iter k (fun (y : Int × List (Int × Int)) => P.cond (P.ilt y.fst ((0 : Int))) none (some (Sum.inr (Sum.inl [])))) ((1 : Int), [])) (P.either (fun (z : List (Int × Int)) => some []) fun (r : List (Int × Int)) => some r))) (P.bind (P.iter k (fun (y : Int × Int × List (Int × Int)) => P.cond (P.ilt y.snd.fst ((0 : Int))) none (some (Sum.inr (Sum.inl (y.fst, []))))) ((-1 : Int), P.wrap IntKind.i64 (P.add ((-1 : Int)) ((1 : Int))), [])) (P.either (fun (z : Int × List (Int × Int)) => P.cond (P.cut z.fst ((0 : Int)) ((0 : Int))) (P.cond (P.cut ((0 : Int)) z.fst ((0 : Int))) (P.bind (sortF []) fun (x : List (Int × Int)) => P.cond (P.ilt ((0 : Int)) ((2 : Int))) (some []) (P.bind (P.iter k (fun (y : Int × List (Int × Int)) => P.cond (P.ilt y.fst ((0 : Int))) none (some (Sum.inr (Sum.inl [])))) ((1 : Int), [])) (P.either (fun (z : List (Int × Int)) => some []) fun (r : List (Int × Int)) => some r))) none) none) fun (r : List (Int × Int)) => some r))) fun (r : List (Int × Int)) => some r))
theorem norm_form (k : Nat) (x : List (Int × Int)) : atoms_Norm k x = P.cond (P.ilt ((0 : Int)) (P.len x)) (P.cond (P.not true) (nilT k) (P.cond (P.room (P.add (P.len (P.nil (Int × Int))) (P.len x)) 16) (delT k x) none)) (P.amb (nilT k) (P.cond (P.room (P.add (P.len (P.nil (Int × Int))) (P.len x)) 16) (delT k x) none)) := rfl
end Go.PL
end
section
open Go Go.PG Go.PL
set_option linter.unusedVariables false
namespace Go.PL
abbrev At := Int × Int
abbrev dA : At := (0, 0)
def ltA (a b : At) : Prop := a.1 < b.1 ∨ (a.1 = b.1 ∧ a.2 < b.2)
instance (a b : At) : Decidable (ltA a b) := by unfold ltA; exact inferInstance
def RightA (a : At) : Prop := (3 ≤ a.1 ∧ a.1 ≤ 5 ∧ 0 ≤ a.2) ∨ ((a.1 = 0 ∨ a.1 = 1 ∨ a.1 = 2 ∨ a.1 = 6) ∧ a.2 = 0)
instance (a : At) : Decidable (RightA a) := by unfold RightA; exact inferInstance
theorem ltA_irrefl (a : At) : ¬ ltA a a := by unfold ltA; omega
theorem ltA_trans {a b c : At} (h1 : ltA a b) (h2 : ltA b c) : ltA a c := by unfold ltA at *; omega
theorem ltA_tri (a b : At) : ltA a b ∨ a = b ∨ ltA b a := by
 obtain ⟨a1, a2⟩ := a; obtain ⟨b1, b2⟩ := b
 simp only [ltA, Prod.mk.injEq]; omega
theorem ltA_asymm {a b : At} (h1 : ltA a b) : ¬ ltA b a := fun h2 => ltA_irrefl _ (ltA_trans h1 h2)
abbrev Rises (l : List At) : Prop := l.Pairwise ltA
theorem rises_ext : ∀ {l m : List At}, Rises l → Rises m → (∀ z, z ∈ l ↔ z ∈ m) → l = m := by
 intro l
 induction l with
 | nil =>
  intro m _ _ h
  cases m with
  | nil => rfl
  | cons b m => exact absurd ((h b).2 (by simp)) (by simp)
 | cons a l ih =>
  intro m hl hm h
  cases m with
  | nil => exact absurd ((h a).1 (by simp)) (by simp)
  | cons b m =>
   obtain ⟨h1, h2⟩ := List.pairwise_cons.1 hl
   obtain ⟨h3, h4⟩ := List.pairwise_cons.1 hm
   have hab : a = b := by
    rcases List.mem_cons.1 ((h a).1 (by simp)) with q | q
    ·exact q
    ·rcases List.mem_cons.1 ((h b).2 (by simp)) with q' | q'
     ·exact q'.symm
     ·exact absurd (ltA_trans (h3 a q) (h1 b q')) (ltA_irrefl _)
   subst hab
   congr 1
   refine ih h2 h4 fun z => ⟨fun hz => ?_, fun hz => ?_⟩
   ·rcases List.mem_cons.1 ((h z).1 (List.mem_cons_of_mem _ hz)) with q | q
    ·subst q; exact absurd (h1 z hz) (ltA_irrefl _)
    ·exact q
   ·rcases List.mem_cons.1 ((h z).2 (List.mem_cons_of_mem _ hz)) with q | q
    ·subst q; exact absurd (h3 z hz) (ltA_irrefl _)
    ·exact q
def insA (x : At) : List At → List At
 | [] => [x]
 | y :: l => if ltA x y then x :: y :: l else y :: insA x l
theorem mem_insA {x z : At} : ∀ {l : List At}, z ∈ insA x l ↔ z = x ∨ z ∈ l := by
 intro l
 induction l with
 | nil => simp [insA]
 | cons y l ih =>
  simp only [insA]
  split
  ·simp
  ·simp only [List.mem_cons, ih]
   constructor
   ·rintro (h | h | h) <;> simp [h]
   ·rintro (h | h | h) <;> simp [h]
theorem rises_insA {x : At} : ∀ {l : List At}, Rises l → x ∉ l → Rises (insA x l) := by
 intro l
 induction l with
 | nil => intro _ _; simp [insA, Rises]
 | cons y l ih =>
  intro h hx
  obtain ⟨h1, h2⟩ := List.pairwise_cons.1 h
  simp only [insA]
  split
  ·rename_i q
   refine List.pairwise_cons.2 ⟨fun z hz => ?_, h⟩
   rcases List.mem_cons.1 hz with rfl | hz
   ·exact q
   ·exact ltA_trans q (h1 z hz)
  ·rename_i q
   refine List.pairwise_cons.2 ⟨fun z hz => ?_, ih h2 fun z => hx (List.mem_cons_of_mem _ z)⟩
   rcases mem_insA.1 hz with rfl | hz
   ·rcases ltA_tri z y with z' | z' | z'
    ·exact absurd z' q
    ·subst z'; exact absurd (by simp) hx
    ·exact z'
   ·exact h1 z hz
def addA (l : List At) (x : At) : List At := if RightA x ∧ x ∉ l then insA x l else l
def norm (l : List At) : List At := l.foldl addA []
theorem mem_addA {l : List At} {x z : At} : z ∈ addA l x ↔ z ∈ l ∨ (z = x ∧ RightA x) := by
 unfold addA
 split
 ·rename_i h
  rw [mem_insA]
  constructor
  ·rintro (q | q)
   ·exact .inr ⟨q, h.1⟩
   ·exact .inl q
  ·rintro (q | q)
   ·exact .inr q
   ·exact .inl q.1
 ·rename_i h
  constructor
  ·exact .inl
  ·rintro (q | ⟨rfl, q⟩)
   ·exact q
   ·apply Classical.byContradiction
    intro z'
    exact h ⟨q, z'⟩
theorem rises_addA {l : List At} {x : At} (h : Rises l) : Rises (addA l x) := by
 unfold addA
 split
 ·rename_i q; exact rises_insA h q.2
 ·exact h
theorem fold_spec : ∀ (l acc : List At), Rises acc → Rises (l.foldl addA acc) ∧ ∀ z, z ∈ l.foldl addA acc ↔ z ∈ acc ∨ (z ∈ l ∧ RightA z) := by
 intro l
 induction l with
 | nil => intro acc h; exact ⟨h, fun z => by simp⟩
 | cons x l ih =>
  intro acc h
  obtain ⟨h1, h2⟩ := ih (addA acc x) (rises_addA h)
  refine ⟨h1, fun z => ?_⟩
  rw [List.foldl_cons, h2, mem_addA, List.mem_cons]
  constructor
  ·rintro ((q | ⟨rfl, q⟩) | q)
   ·exact .inl q
   ·exact .inr ⟨.inl rfl, q⟩
   ·exact .inr ⟨.inr q.1, q.2⟩
  ·rintro (q | ⟨rfl | q, q'⟩)
   ·exact .inl (.inl q)
   ·exact .inl (.inr ⟨rfl, q'⟩)
   ·exact .inr ⟨q, q'⟩
theorem norm_rises (l : List At) : Rises (norm l) := (fold_spec l [] List.Pairwise.nil).1
theorem mem_norm {l : List At} {z : At} : z ∈ norm l ↔ z ∈ l ∧ RightA z := by
 unfold norm
 rw [(fold_spec l [] List.Pairwise.nil).2]
 simp
def Canon (l : List At) : Prop := Rises l ∧ ∀ z, z ∈ l → RightA z
theorem norm_canon (l : List At) : Canon (norm l) := ⟨norm_rises l, fun z h => (mem_norm.1 h).2⟩
theorem norm_eq {l m : List At} (h : Canon m) (hm : ∀ z, RightA z → (z ∈ m ↔ z ∈ l)) : norm l = m :=
 rises_ext (norm_rises l) h.1 fun z => by
  rw [mem_norm]
  exact ⟨fun q => (hm z q.2).2 q.1, fun q => ⟨(hm z (h.2 z q)).1 q, h.2 z q⟩⟩
theorem canon_iff {l : List At} : l = norm l ↔ Canon l := ⟨fun h => by rw [h]; exact norm_canon l, fun h => (norm_eq h fun _ _ => Iff.rfl).symm⟩
theorem norm_nil : norm [] = [] := rfl
def K : Nat := 18446744073709551616
def leB (a b : At) : Bool := decide (a.1 < b.1 ∨ (a.1 = b.1 ∧ a.2 ≤ b.2))
theorem leB_iff {a b : At} : leB a b = true ↔ ¬ ltA b a := by
 unfold leB ltA; rw [decide_eq_true_eq]; omega
theorem sortF_spec (l : List At) (hlen : l.length < 4611686018427387904) : ∃ s, sortF l = some s ∧ s.length = l.length ∧ (∀ z, z ∈ s ↔ z ∈ l) ∧ s.Pairwise (fun a b => ¬ ltA b a) := by
 refine ⟨l.mergeSort leB, by unfold sortF SortW.sortF; rw [if_pos hlen]; rfl, by simp, fun z => List.mem_mergeSort, ?_⟩
 have h := List.pairwise_mergeSort (le := leB) (fun a b c h1 h2 => by
  rw [leB_iff] at *
  intro h3
  rcases ltA_tri a b with q | q | q
  ·exact h2 (ltA_trans h3 q)
  ·subst q; exact h2 h3
  ·exact h1 q) (fun a b => by
  rw [Bool.or_eq_true, leB_iff, leB_iff]
  by_cases q : ltA b a
  ·exact .inr (ltA_asymm q)
  ·exact .inl q) l
 exact h.imp fun q => leB_iff.1 q
end Go.PL
end
section
open Go Go.PG Go.PL
set_option linter.unusedVariables false
namespace Go.PL
theorem at_right (k : Nat) (a : At) : atoms_right k a = some (decide (RightA a)) := by
 obtain ⟨a, b⟩ := a
 unfold atoms_right
 dsimp only
 simp only [cond_eq, ieq_iff]
 repeat' split
 all_goals
  rw [Option.some.injEq, Bool.eq_iff_iff, decide_eq_true_eq]
  simp only [RightA, ieq_iff, ile_iff, Bool.false_eq_true, false_iff]
  omega
theorem at_bad (k : Nat) (a : At) : atoms_Norm_1 k a = some (!decide (RightA a)) := by
 unfold atoms_Norm_1
 rw [at_right, bind_some]
 rfl
theorem getD_set_ne {l : List At} {i j : Nat} (h : i ≠ j) (x : At) : (l.set i x).getD j dA = l.getD j dA := by
 simp [List.getD_eq_getElem?_getD, List.getElem?_set_ne h]
theorem take_set_succ {l : List At} {i : Nat} (h : i < l.length) (x : At) : (l.set i x).take (i + 1) = l.take i ++ [x] := by
 rw [List.take_add_one, List.take_set_of_le (Nat.le_refl i)]
 simp [h]
theorem drop_getD {l : List At} {j : Nat} (h : j < l.length) : l.drop j = l.getD j dA :: l.drop (j + 1) := by
 rw [List.drop_eq_getElem_cons h]
 simp [List.getD_eq_getElem?_getD, h]
theorem take_getD {l : List At} {j : Nat} (h : j < l.length) : l.take (j + 1) = l.take j ++ [l.getD j dA] := by
 rw [List.take_add_one, List.getElem?_eq_getElem h]
 simp [List.getD_eq_getElem?_getD, h]
theorem iter_keep {ρ : Type} {f : Int × Int × List At → Option ((Int × Int × List At) ⊕ ((Int × List At) ⊕ ρ))} (p : At → Bool) (n : Nat) (x : List At) (hn : x.length = n)
  (hs : ∀ (i j : Nat) (xs : List At), i ≤ j → j < n → xs.length = n → xs.getD j dA = x.getD j dA → f ((i : Int), (j : Int), xs) = some (.inl (if p (x.getD j dA) = true then (((i + 1 : Nat) : Int), ((j + 1 : Nat) : Int), xs.set i (x.getD j dA)) else ((i : Int), ((j + 1 : Nat) : Int), xs))))
  (he : ∀ (i : Nat) (xs : List At), i ≤ n → xs.length = n → f ((i : Int), (n : Int), xs) = some (.inr (.inl ((i : Int), xs)))) :
  ∀ (d i j k : Nat) (xs : List At), j + d = n → d < k → i ≤ j → xs.length = n → (∀ m, j ≤ m → xs.getD m dA = x.getD m dA) →
   ∃ (i' : Nat) (xs' : List At), P.iter k f ((i : Int), (j : Int), xs) = some (.inl ((i' : Int), xs')) ∧ i' ≤ n ∧ xs'.length = n ∧ xs'.take i' = xs.take i ++ (x.drop j).filter p := by
 intro d
 induction d with
 | zero =>
  intro i j k xs hj hk hij hl hm
  obtain rfl : j = n := by omega
  refine ⟨i, xs, iter_done (by omega) (he i xs (by omega) hl), by omega, hl, ?_⟩
  rw [List.drop_eq_nil_of_le (by omega)]
  simp
 | succ d ih =>
  intro i j k xs hj hk hij hl hm
  have hstep := hs i j xs hij (by omega) hl (hm j (Nat.le_refl _))
  rw [drop_getD (l := x) (j := j) (by omega)]
  by_cases hp : p (x.getD j dA) = true
  ·rw [if_pos hp] at hstep
   obtain ⟨i', xs', h1, h2, h3, h4⟩ := ih (i + 1) (j + 1) (k - 1) (xs.set i (x.getD j dA)) (by omega) (by omega) (by omega) (by simpa using hl) (fun m hm' => by rw [getD_set_ne (by omega)]; exact hm m (by omega))
   refine ⟨i', xs', by rw [iter_step (by omega) hstep]; exact h1, h2, h3, ?_⟩
   rw [h4, take_set_succ (by omega), List.filter_cons_of_pos hp]
   simp
  ·rw [if_neg hp] at hstep
   obtain ⟨i', xs', h1, h2, h3, h4⟩ := ih i (j + 1) (k - 1) xs (by omega) (by omega) (by omega) hl (fun m hm' => hm m (by omega))
   refine ⟨i', xs', by rw [iter_step (by omega) hstep]; exact h1, h2, h3, ?_⟩
   rw [h4, List.filter_cons_of_neg hp]
theorem sub_fill {l : List At} {i : Nat} (h : i ≤ l.length) (m : Int) (z : At) : P.sub_ (P.fill l (i : Int) m z) 0 (i : Int) = l.take i := by
 simp only [P.sub_, P.fill, Int.toNat_natCast, Int.toNat_zero, List.drop_zero]
 rw [List.append_assoc, List.take_append_of_le_length (by rw [List.length_take]; omega), List.take_take]
 simp
theorem len_fill {l : List At} {i : Nat} (h : i ≤ l.length) (z : At) : P.len (P.fill l (i : Int) (P.sub (P.len l) (i : Int)) z) = (l.length : Int) := by
 simp only [P.len, P.fill, P.sub, Int.toNat_natCast]
 have : ((l.length : Int) - (i : Int)).toNat = l.length - i := by omega
 rw [this]
 simp
 omega
noncomputable def rest (l : List At) : Option (List At) := P.bind (sortF l) (compactT K)
def good (a : At) : Bool := decide (RightA a)
theorem nil_spec (hc : ∀ ys : List At, ys = [] → True) : nilT K = some [] := by
 have s0 : sortF [] = some [] := by
  obtain ⟨s, h1, h2, _⟩ := sortF_spec [] (by simp)
  rw [h1]
  rw [List.length_eq_zero_iff.1 h2]
 unfold nilT
 rw [iter_done (r := .inl ()) (by unfold K; omega) (by rfl), bind_some, either_inl]
 simp only [s0, bind_some, cond_eq, ieq_iff, ilt_iff]
 rfl
theorem shift_spec (x : List At) (hx : x.length < 9223372036854775808) (i : Nat) (hi : i < x.length) : shiftT K (i : Int) x = rest (x.take i ++ (x.drop (i + 1)).filter good) := by
 unfold shiftT
 have happ : P.app [] x = x := rfl
 rw [happ, wrap_succ (by omega)]
 have fin : ∀ f : Int × Int × List At → Option ((Int × Int × List At) ⊕ ((Int × List At) ⊕ List At)),
   (∀ (i j : Nat) (xs : List At), i ≤ j → j < x.length → xs.length = x.length → xs.getD j dA = x.getD j dA → f ((i : Int), (j : Int), xs) = some (.inl (if good (x.getD j dA) = true then (((i + 1 : Nat) : Int), ((j + 1 : Nat) : Int), xs.set i (x.getD j dA)) else ((i : Int), ((j + 1 : Nat) : Int), xs)))) →
   (∀ (i : Nat) (xs : List At), i ≤ x.length → xs.length = x.length → f ((i : Int), (x.length : Int), xs) = some (.inr (.inl ((i : Int), xs)))) →
   P.bind (P.iter K f ((i : Int), ((i + 1 : Nat) : Int), x)) (P.either (fun (z : Int × List (Int × Int)) => P.cond (P.cut z.fst (P.len z.snd) (P.len z.snd)) (P.cond (P.cut ((0 : Int)) z.fst (P.len (P.fill z.snd z.fst (P.sub (P.len z.snd) z.fst) ((0 : Int), (0 : Int))))) (P.bind (sortF (P.sub_ (P.fill z.snd z.fst (P.sub (P.len z.snd) z.fst) ((0 : Int), (0 : Int))) ((0 : Int)) z.fst)) fun (ys : List (Int × Int)) => compactT K ys) none) none) fun (r : List (Int × Int)) => some r) = rest (x.take i ++ (x.drop (i + 1)).filter good) := by
  intro f hs he
  obtain ⟨i', xs', h1, h2, h3, h4⟩ := iter_keep good x.length x rfl hs he (x.length - (i + 1)) i (i + 1) K x (by omega) (by unfold K; omega) (by omega) rfl (fun _ _ => rfl)
  rw [h1, bind_some, either_inl]
  simp only [cond_eq, cut_iff, len_eq]
  rw [if_pos ⟨by omega, by omega, by omega⟩]
  have hl := len_fill (l := xs') (i := i') (by omega) ((0 : Int), (0 : Int))
  simp only [len_eq] at hl
  rw [if_pos ⟨by omega, by omega, by rw [hl]; omega⟩, sub_fill (by omega), h4]
  rfl
 refine fin _ (fun i j xs hij hj hl hg => ?_) (fun i xs hi hl => ?_)
 ·simp only [cond_eq, ilt_iff, inb_iff, len_eq, get_nat, hl]
  rw [if_pos (by omega), if_pos ⟨by omega, by omega⟩, hg, at_bad, bind_some, wrap_succ (by omega), wrap_succ (by omega)]
  by_cases q : RightA (x.getD j dA)
  ·rw [if_pos (show P.not (!decide (RightA (x.getD j dA))) = true by simp only [P.not, decide_eq_true q]; rfl), if_pos ⟨by omega, by omega⟩, if_pos (show good (x.getD j dA) = true from decide_eq_true q)]
   rfl
  ·rw [if_neg (show ¬ P.not (!decide (RightA (x.getD j dA))) = true by simp only [P.not, decide_eq_false q]; decide), if_neg (show ¬ good (x.getD j dA) = true by unfold good; rw [decide_eq_false q]; decide)]
 ·simp only [cond_eq, ilt_iff, len_eq, hl]
  rw [if_neg (by omega)]
theorem del_spec (x : List At) (hx : x.length < 9223372036854775808) : delT K x = rest (x.filter good) := by
 have happ : P.app [] x = x := rfl
 unfold delT
 rw [happ]
 have key : ∀ (d i k : Nat) (f : Int → Option (Int ⊕ (Unit ⊕ List At))), i + d = x.length → d < k → (∀ a, a ∈ x.take i → good a = true) →
   (∀ j : Nat, j < x.length → f (j : Int) = if good (x.getD j dA) = true then some (.inl ((j + 1 : Nat) : Int)) else P.map (fun r => Sum.inr (Sum.inr r)) (shiftT K (j : Int) x)) → f (x.length : Int) = some (.inr (.inl ())) →
   P.bind (P.iter k f (i : Int)) (P.either (fun (z : Unit) => P.bind (sortF x) fun ys => compactT K ys) fun r => some r) = rest (x.filter good) := by
  intro d
  induction d with
  | zero =>
   intro i k f hi hk hg hs he
   obtain rfl : i = x.length := by omega
   rw [iter_done (by omega) he, bind_some, either_inl]
   rw [List.take_length] at hg
   rw [List.filter_eq_self.2 hg]
   rfl
  | succ d ih =>
   intro i k f hi hk hg hs he
   have h := hs i (by omega)
   by_cases q : good (x.getD i dA) = true
   ·rw [if_pos q] at h
    rw [iter_step (by omega) h]
    refine ih (i + 1) (k - 1) f (by omega) (by omega) (fun a ha => ?_) hs he
    rw [take_getD (by omega), List.mem_append, List.mem_singleton] at ha
    rcases ha with ha | ha
    ·exact hg a ha
    ·rw [ha]; exact q
   ·rw [if_neg q, shift_spec x hx i (by omega)] at h
    have e : x.take i ++ (x.drop (i + 1)).filter good = x.filter good := by
     conv => rhs; rw [← List.take_append_drop i x, List.filter_append, List.filter_eq_self.2 hg, drop_getD (l := x) (j := i) (by omega), List.filter_cons_of_neg q]
    rw [e] at h
    cases hr : rest (x.filter good) with
    | none =>
     rw [hr] at h
     obtain ⟨m, rfl⟩ : ∃ m, k = m + 1 := ⟨k - 1, by omega⟩
     rw [iter_succ, h]
     rfl
    | some r =>
     rw [hr] at h
     rw [iter_done (by omega) h, bind_some, either_inr]
 rw [show P.ieq ((-1 : Int)) ((-1 : Int)) = true from by decide]
 simp only [cond_true]
 refine key x.length 0 K _ (by omega) (by unfold K; omega) (by simp) (fun j hj => ?_) ?_
 ·simp only [cond_eq, ilt_iff, inb_iff, len_eq, get_nat, ieq_iff]
  rw [if_pos (by omega), if_pos ⟨by omega, by omega⟩, at_bad, bind_some, wrap_succ (by omega), if_neg (show ¬ (j : Int) = -1 by omega)]
  by_cases q : RightA (x.getD j dA)
  ·rw [if_neg (by rw [decide_eq_true q]; decide), if_pos (show good (x.getD j dA) = true from decide_eq_true q)]
  ·rw [if_pos (by rw [decide_eq_false q]; rfl), if_neg (show ¬ good (x.getD j dA) = true by unfold good; rw [decide_eq_false q]; decide)]
 ·simp only [cond_eq, ilt_iff, len_eq]
  rw [if_neg (by omega)]
end Go.PL
end
section
open Go Go.PG Go.PL
set_option linter.unusedVariables false
namespace Go.PL
abbrev Sorted (ys : List At) : Prop := ys.Pairwise fun a b => ¬ ltA b a
theorem sorted_at {ys : List At} (h : Sorted ys) {i j : Nat} (hij : i ≤ j) (hj : j < ys.length) : ¬ ltA (ys.getD j dA) (ys.getD i dA) := by
 rcases Nat.lt_or_eq_of_le hij with q | q
 ·have := List.pairwise_iff_getElem.1 h i j (by omega) hj q
  simpa [List.getD_eq_getElem?_getD, hj, show i < ys.length by omega] using this
 ·subst q; exact ltA_irrefl _
theorem mem_take_getD {ys : List At} {m : Nat} {z : At} (h : z ∈ ys.take m) : ∃ i, i < m ∧ i < ys.length ∧ z = ys.getD i dA := by
 obtain ⟨i, hi, rfl⟩ := List.getElem_of_mem h
 rw [List.length_take] at hi
 exact ⟨i, by omega, by omega, by rw [List.getElem_take]; simp [List.getD_eq_getElem?_getD, show i < ys.length by omega]⟩
theorem getD_mem_take {ys : List At} {i m : Nat} (h : i < m) (hi : i < ys.length) : ys.getD i dA ∈ ys.take m := by
 have : (ys.take m)[i]? = some (ys.getD i dA) := by rw [List.getElem?_take, if_pos h]; simp [List.getD_eq_getElem?_getD, hi]
 exact List.mem_of_getElem? this
theorem iter_dd {ρ : Type} {f : Int × Int × List At → Option ((Int × Int × List At) ⊕ ((Int × List At) ⊕ ρ))} (ys : List At) (hsrt : Sorted ys) (j0 : Nat) (hj0 : 0 < j0) (hjn : j0 < ys.length)
  (hs : ∀ (i k2 : Nat) (xs : List At), 0 < k2 → i < j0 + k2 → j0 + k2 < ys.length → xs.length = ys.length → xs.getD (j0 + k2) dA = ys.getD (j0 + k2) dA → xs.getD (j0 + (k2 - 1)) dA = ys.getD (j0 + (k2 - 1)) dA →
   f ((i : Int), (k2 : Int), xs) = some (.inl (if ys.getD (j0 + k2) dA = ys.getD (j0 + (k2 - 1)) dA then ((i : Int), ((k2 + 1 : Nat) : Int), xs) else (((i + 1 : Nat) : Int), ((k2 + 1 : Nat) : Int), xs.set i (ys.getD (j0 + k2) dA)))))
  (he : ∀ (i k2 : Nat) (xs : List At), j0 + k2 = ys.length → i ≤ ys.length → xs.length = ys.length → f ((i : Int), (k2 : Int), xs) = some (.inr (.inl ((i : Int), xs)))) :
  ∀ (d i k2 k : Nat) (xs : List At), j0 + k2 + d = ys.length → d < k → 0 < k2 → i < j0 + k2 → xs.length = ys.length → (∀ m, j0 + k2 ≤ m + 1 → xs.getD m dA = ys.getD m dA) → Rises (xs.take i) → (∀ z, z ∈ xs.take i ↔ z ∈ ys.take (j0 + k2)) →
   ∃ (i' : Nat) (xs' : List At), P.iter k f ((i : Int), (k2 : Int), xs) = some (.inl ((i' : Int), xs')) ∧ i' ≤ ys.length ∧ xs'.length = ys.length ∧ Rises (xs'.take i') ∧ ∀ z, z ∈ xs'.take i' ↔ z ∈ ys := by
 intro d
 induction d with
 | zero =>
  intro i k2 k xs hd hk h2 hi hl hm hr hz
  refine ⟨i, xs, iter_done (by omega) (he i k2 xs (by omega) (by omega) hl), by omega, hl, hr, fun z => ?_⟩
  rw [hz, List.take_of_length_le (by omega)]
 | succ d ih =>
  intro i k2 k xs hd hk h2 hi hl hm hr hz
  have hstep := hs i k2 xs h2 hi (by omega) hl (hm _ (by omega)) (hm _ (by omega))
  have hprev : ys.getD (j0 + (k2 - 1)) dA ∈ ys.take (j0 + k2) := getD_mem_take (by omega) (by omega)
  by_cases q : ys.getD (j0 + k2) dA = ys.getD (j0 + (k2 - 1)) dA
  ·rw [if_pos q] at hstep
   obtain ⟨i', xs', r1, r2, r3, r4, r5⟩ := ih i (k2 + 1) (k - 1) xs (by omega) (by omega) (by omega) (by omega) hl (fun m hm' => hm m (by omega)) hr (fun z => by
    rw [hz, show j0 + (k2 + 1) = j0 + k2 + 1 by omega, take_getD (by omega), List.mem_append, List.mem_singleton]
    exact ⟨.inl, fun h => h.elim id fun h => by rw [h, q]; exact hprev⟩)
   exact ⟨i', xs', by rw [iter_step (by omega) hstep]; exact r1, r2, r3, r4, r5⟩
  ·rw [if_neg q] at hstep
   have htake : (xs.set i (ys.getD (j0 + k2) dA)).take (i + 1) = xs.take i ++ [ys.getD (j0 + k2) dA] := take_set_succ (by omega) _
   obtain ⟨i', xs', r1, r2, r3, r4, r5⟩ := ih (i + 1) (k2 + 1) (k - 1) (xs.set i (ys.getD (j0 + k2) dA)) (by omega) (by omega) (by omega) (by omega) (by simpa using hl) (fun m hm' => by rw [getD_set_ne (by omega)]; exact hm m (by omega)) (by
    rw [htake]
    refine List.pairwise_append.2 ⟨hr, List.pairwise_singleton _ _, fun a ha b hb => ?_⟩
    rw [List.mem_singleton] at hb
    subst hb
    obtain ⟨m, m1, m2, rfl⟩ := mem_take_getD ((hz a).1 ha)
    have s1 := sorted_at hsrt (i := m) (j := j0 + (k2 - 1)) (by omega) (by omega)
    have s2 := sorted_at hsrt (i := j0 + (k2 - 1)) (j := j0 + k2) (by omega) (by omega)
    rcases ltA_tri (ys.getD (j0 + (k2 - 1)) dA) (ys.getD (j0 + k2) dA) with t | t | t
    ·rcases ltA_tri (ys.getD m dA) (ys.getD (j0 + (k2 - 1)) dA) with u | u | u
     ·exact ltA_trans u t
     ·rw [u]; exact t
     ·exact absurd u s1
    ·exact absurd t.symm q
    ·exact absurd t s2) (fun z => by
    rw [htake, show j0 + (k2 + 1) = j0 + k2 + 1 by omega, take_getD (by omega), List.mem_append, List.mem_append, hz])
   exact ⟨i', xs', by rw [iter_step (by omega) hstep]; exact r1, r2, r3, r4, r5⟩
theorem eqA_iff {a b : At} : P.and (P.ieq a.1 b.1) (P.ieq a.2 b.2) = true ↔ a = b := by
 rw [and_iff, ieq_iff, ieq_iff]
 exact ⟨fun h => Prod.ext h.1 h.2, fun h => by rw [h]; exact ⟨rfl, rfl⟩⟩
theorem rises_take {ys : List At} (hs : Sorted ys) {j : Nat} (h : Rises (ys.take j)) (hj : j < ys.length) (h0 : 0 < j) (hne : ys.getD j dA ≠ ys.getD (j - 1) dA) : Rises (ys.take (j + 1)) := by
 rw [take_getD hj]
 refine List.pairwise_append.2 ⟨h, List.pairwise_singleton _ _, fun a ha b hb => ?_⟩
 rw [List.mem_singleton] at hb
 subst hb
 obtain ⟨m, m1, m2, rfl⟩ := mem_take_getD ha
 have s1 := sorted_at hs (i := m) (j := j - 1) (by omega) (by omega)
 have s2 := sorted_at hs (i := j - 1) (j := j) (by omega) (by omega)
 rcases ltA_tri (ys.getD (j - 1) dA) (ys.getD j dA) with t | t | t
 ·rcases ltA_tri (ys.getD m dA) (ys.getD (j - 1) dA) with u | u | u
  ·exact ltA_trans u t
  ·rw [u]; exact t
  ·exact absurd u s1
 ·exact absurd t.symm hne
 ·exact absurd t s2
theorem compact_spec (ys : List At) (hl : ys.length < 9223372036854775808) (hsrt : Sorted ys) : ∃ r, compactT K ys = some r ∧ Rises r ∧ ∀ z, z ∈ r ↔ z ∈ ys := by
 unfold compactT
 by_cases h2 : ys.length < 2
 ·refine ⟨ys, ?_, ?_, fun z => Iff.rfl⟩
  ·rw [show P.ilt (P.len ys) ((2 : Int)) = true from ilt_iff.2 (by rw [len_eq]; omega)]; rfl
  ·match ys, h2 with
   | [], _ => exact List.Pairwise.nil
   | [a], _ => exact List.pairwise_singleton _ _
 rw [show P.ilt (P.len ys) ((2 : Int)) = false from by rw [Bool.eq_false_iff, Ne, ilt_iff, len_eq]; omega]
 rw [cond_false]
 have key : ∀ (d j k : Nat) (f : Int × List At → Option ((Int × List At) ⊕ (List At ⊕ List At))), j + d = ys.length → d < k → 0 < j → Rises (ys.take j) →
   (∀ j : Nat, 0 < j → j < ys.length → ys.getD j dA ≠ ys.getD (j - 1) dA → f ((j : Int), ys) = some (.inl (((j + 1 : Nat) : Int), ys))) →
   (∀ j : Nat, 0 < j → j < ys.length → ys.getD j dA = ys.getD (j - 1) dA → Rises (ys.take j) → ∃ r, f ((j : Int), ys) = some (.inr (.inr r)) ∧ Rises r ∧ ∀ z, z ∈ r ↔ z ∈ ys) →
   f ((ys.length : Int), ys) = some (.inr (.inl ys)) →
   ∃ r, P.bind (P.iter k f ((j : Int), ys)) (P.either (fun (z : List At) => some z) fun r => some r) = some r ∧ Rises r ∧ ∀ z, z ∈ r ↔ z ∈ ys := by
  intro d
  induction d with
  | zero =>
   intro j k f hj hk h0 hr hs1 hs2 he
   obtain rfl : j = ys.length := by omega
   rw [List.take_length] at hr
   exact ⟨ys, by rw [iter_done (by omega) he]; rfl, hr, fun z => Iff.rfl⟩
  | succ d ih =>
   intro j k f hj hk h0 hr hs1 hs2 he
   by_cases q : ys.getD j dA = ys.getD (j - 1) dA
   ·obtain ⟨r, r1, r2, r3⟩ := hs2 j h0 (by omega) q hr
    exact ⟨r, by rw [iter_done (by omega) r1]; rfl, r2, r3⟩
   ·have h := hs1 j h0 (by omega) q
    obtain ⟨r, r1, r2, r3⟩ := ih (j + 1) (k - 1) f (by omega) (by omega) (by omega) (rises_take hsrt hr (by omega) h0 q) hs1 hs2 he
    exact ⟨r, by rw [iter_step (by omega) h]; exact r1, r2, r3⟩
 refine key (ys.length - 1) 1 K _ (by omega) (by unfold K; omega) (by omega) ?_ (fun j h0 hj hne => ?_) (fun j h0 hj heq hr => ?_) ?_
 ·rw [show (1 : Nat) = 0 + 1 from rfl, take_getD (by omega)]; simp
 ·simp only [cond_eq, ilt_iff, inb_iff, len_eq]
  rw [if_pos (by omega), if_pos ⟨by omega, by omega⟩, wrap_pred h0 (by omega), if_pos ⟨by omega, by omega⟩]
  simp only [get_nat]
  rw [if_neg (fun q => hne (eqA_iff.1 q)), wrap_succ (by omega)]
 ·have inner : ∀ f : Int × Int × List At → Option ((Int × Int × List At) ⊕ ((Int × List At) ⊕ ((Int × List At) ⊕ (List At ⊕ List At)))),
    (∀ (i k2 : Nat) (xs : List At), 0 < k2 → i < j + k2 → j + k2 < ys.length → xs.length = ys.length → xs.getD (j + k2) dA = ys.getD (j + k2) dA → xs.getD (j + (k2 - 1)) dA = ys.getD (j + (k2 - 1)) dA →
     f ((i : Int), (k2 : Int), xs) = some (.inl (if ys.getD (j + k2) dA = ys.getD (j + (k2 - 1)) dA then ((i : Int), ((k2 + 1 : Nat) : Int), xs) else (((i + 1 : Nat) : Int), ((k2 + 1 : Nat) : Int), xs.set i (ys.getD (j + k2) dA))))) →
    (∀ (i k2 : Nat) (xs : List At), j + k2 = ys.length → i ≤ ys.length → xs.length = ys.length → f ((i : Int), (k2 : Int), xs) = some (.inr (.inl ((i : Int), xs)))) →
    ∃ r, P.bind (P.iter K f ((j : Int), (1 : Int), ys)) (P.either (fun (z : Int × List (Int × Int)) => P.cond (P.cut z.fst (P.len z.snd) (P.len z.snd)) (P.cond (P.cut ((0 : Int)) z.fst (P.len (P.fill z.snd z.fst (P.sub (P.len z.snd) z.fst) ((0 : Int), (0 : Int))))) (some (Sum.inr (Sum.inr (P.sub_ (P.fill z.snd z.fst (P.sub (P.len z.snd) z.fst) ((0 : Int), (0 : Int))) ((0 : Int)) z.fst)))) none) none) fun (r : Int × List (Int × Int) ⊕ List (Int × Int) ⊕ List (Int × Int)) => some r) = some (.inr (.inr r)) ∧ Rises r ∧ ∀ z, z ∈ r ↔ z ∈ ys := by
   intro f hs he
   obtain ⟨i', xs', r1, r2, r3, r4, r5⟩ := iter_dd ys hsrt j h0 hj hs he (ys.length - (j + 1)) j 1 K ys (by omega) (by unfold K; omega) (by omega) (by omega) rfl (fun _ _ => rfl) hr (fun z => by
    rw [take_getD (by omega), List.mem_append, List.mem_singleton]
    exact ⟨.inl, fun h => h.elim id fun h => by rw [h, heq]; exact getD_mem_take (by omega) (by omega)⟩)
   refine ⟨xs'.take i', ?_, r4, r5⟩
   rw [show ((1 : Nat) : Int) = (1 : Int) from rfl] at r1
   rw [r1, bind_some, either_inl]
   simp only [cond_eq, cut_iff, len_eq]
   rw [if_pos ⟨by omega, by omega, by omega⟩]
   have hlf := len_fill (l := xs') (i := i') (by omega) ((0 : Int), (0 : Int))
   simp only [len_eq] at hlf
   rw [if_pos ⟨by omega, by omega, by rw [hlf]; omega⟩, sub_fill (by omega)]
  dsimp only
  rw [show P.ilt (j : Int) (P.len ys) = true from ilt_iff.2 (by rw [len_eq]; omega), cond_true, show P.inb (j : Int) (P.len ys) = true from inb_iff.2 (by rw [len_eq]; omega), cond_true, wrap_pred h0 (by omega),
   show P.inb ((j - 1 : Nat) : Int) (P.len ys) = true from inb_iff.2 (by rw [len_eq]; omega), cond_true, get_nat, get_nat, show P.and (P.ieq (ys.getD j dA).1 (ys.getD (j - 1) dA).1) (P.ieq (ys.getD j dA).2 (ys.getD (j - 1) dA).2) = true from eqA_iff.2 heq, cond_true,
   show P.cut (j : Int) (P.len ys) (P.len ys) = true from cut_iff.2 (by rw [len_eq]; omega), cond_true]
  refine inner _ (fun i k2 xs hk0 hi hk hlx hg1 hg2 => ?_) (fun i k2 xs hk hi hlx => ?_)
  ·have e1 : P.add (j : Int) (k2 : Int) = ((j + k2 : Nat) : Int) := by simp [P.add]
   have e2 : P.add (j : Int) ((k2 - 1 : Nat) : Int) = ((j + (k2 - 1) : Nat) : Int) := by simp [P.add]
   have e3 : P.sub (P.len ys) (j : Int) = ((ys.length - j : Nat) : Int) := by simp only [P.sub, len_eq]; omega
   dsimp only
   rw [e3, show P.ilt (k2 : Int) ((ys.length - j : Nat) : Int) = true from ilt_iff.2 (by omega), cond_true, show P.inb (k2 : Int) ((ys.length - j : Nat) : Int) = true from inb_iff.2 (by omega), cond_true, wrap_pred hk0 (by omega),
    show P.inb ((k2 - 1 : Nat) : Int) ((ys.length - j : Nat) : Int) = true from inb_iff.2 (by omega), cond_true, e1, e2, get_nat, get_nat, hg1, hg2, wrap_succ (by omega), wrap_succ (by omega)]
   by_cases q : ys.getD (j + k2) dA = ys.getD (j + (k2 - 1)) dA
   ·rw [if_pos q, show P.and (P.ieq (ys.getD (j + k2) dA).1 (ys.getD (j + (k2 - 1)) dA).1) (P.ieq (ys.getD (j + k2) dA).2 (ys.getD (j + (k2 - 1)) dA).2) = true from eqA_iff.2 q]
    rfl
   ·rw [if_neg q, show P.and (P.ieq (ys.getD (j + k2) dA).1 (ys.getD (j + (k2 - 1)) dA).1) (P.ieq (ys.getD (j + k2) dA).2 (ys.getD (j + (k2 - 1)) dA).2) = false from by rw [Bool.eq_false_iff]; exact fun z => q (eqA_iff.1 z),
     show P.not false = true from rfl, cond_true, show P.inb (i : Int) (P.len xs) = true from inb_iff.2 (by rw [len_eq]; omega), cond_true]
    rfl
  ·have e3 : P.sub (P.len ys) (j : Int) = ((ys.length - j : Nat) : Int) := by simp only [P.sub, len_eq]; omega
   dsimp only
   rw [e3, show P.ilt (k2 : Int) ((ys.length - j : Nat) : Int) = false from by rw [Bool.eq_false_iff, Ne, ilt_iff]; omega]
   rfl
 ·simp only [cond_eq, ilt_iff, len_eq]
  rw [if_neg (by omega)]
theorem at_norm (x : List At) (hx : x.length < 9223372036854775808) (hr : x.length * 16 ≤ 140737488355328) : atoms_Norm K x = some (norm x) := by
 have hd : delT K x = some (norm x) := by
  rw [del_spec x hx]
  unfold rest
  have hlen := List.length_filter_le good x
  obtain ⟨s, s1, s2, s3, s4⟩ := sortF_spec (x.filter good) (by omega)
  obtain ⟨r, r1, r2, r3⟩ := compact_spec s (by omega) s4
  rw [s1, bind_some, r1]
  congr 1
  refine (norm_eq ⟨r2, fun z hz => ?_⟩ fun z hz => ?_).symm
  ·have := (s3 z).1 ((r3 z).1 hz)
   exact of_decide_eq_true (List.mem_filter.1 this).2
  ·rw [r3, s3, List.mem_filter]
   exact ⟨fun h => h.1, fun h => ⟨h, decide_eq_true hz⟩⟩
 rw [norm_form]
 have hroom : P.room (P.add (P.len (P.nil (Int × Int))) (P.len x)) 16 = true := by
  rw [show P.len (P.nil (Int × Int)) = ((0 : Nat) : Int) from rfl, len_eq, room_nat]
  omega
 rw [hroom, cond_true, hd]
 by_cases h0 : P.ilt ((0 : Int)) (P.len x) = true
 ·rw [h0]; rfl
 ·rw [Bool.eq_false_iff.2 h0, cond_false]
  have : x = [] := by
   rw [ilt_iff, len_eq] at h0
   exact List.length_eq_zero_iff.1 (by omega)
  subst this
  rw [nil_spec fun _ _ => trivial, norm_nil]
  simp [P.amb]
end Go.PL
end
section
open Go Go.PG Go.PL
set_option linter.unusedVariables false
namespace Go.PL
theorem insA_length (x : At) : ∀ l : List At, (insA x l).length = l.length + 1
 | [] => rfl
 | y :: l => by simp only [insA]; split <;> simp [insA_length x l]
theorem addA_length (l : List At) (x : At) : (addA l x).length ≤ l.length + 1 := by
 unfold addA; split
 ·rw [insA_length]; exact Nat.le_refl _
 ·omega
theorem fold_length : ∀ (l acc : List At), (l.foldl addA acc).length ≤ acc.length + l.length
 | [], acc => by simp
 | x :: l, acc => by
  have h1 := fold_length l (addA acc x)
  have h2 := addA_length acc x
  simp only [List.foldl_cons, List.length_cons]
  omega
theorem norm_length (l : List At) : (norm l).length ≤ l.length := by
 have := fold_length l []
 simpa [norm] using this
theorem at_norm' (x : List At) (hx : x.length ≤ 8796093022100) : atoms_Norm K x = some (norm x) := at_norm x (by omega) (by omega)
theorem at_clone (k : Nat) (x : List At) (hx : x.length ≤ 8796093022100) : slCloneAtom k x = some x := by
 unfold slCloneAtom
 have hroom : P.room (P.add (P.len (P.nil (Int × Int))) (P.len x)) 16 = true := by
  rw [show P.len (P.nil (Int × Int)) = ((0 : Nat) : Int) from rfl, len_eq, room_nat]
  omega
 try dsimp only
 rw [hroom, cond_true, show P.app [] x = x from rfl]
 by_cases h0 : P.ilt ((0 : Int)) (P.len x) = true
 ·rw [h0]; rfl
 ·rw [Bool.eq_false_iff.2 h0, cond_false]
  have : x = [] := by
   rw [ilt_iff, len_eq] at h0
   exact List.length_eq_zero_iff.1 (by omega)
  subst this
  simp [P.amb]
theorem eq_iff_getD {a b : List At} (h : a.length = b.length) : (∀ i, i < a.length → a.getD i dA = b.getD i dA) ↔ a = b := by
 constructor
 ·intro q
  refine List.ext_getElem h fun i h1 h2 => ?_
  have := q i h1
  simpa [List.getD_eq_getElem?_getD, h1, h2] using this
 ·rintro rfl i _; rfl
theorem at_equal (a b : List At) (ha : a.length ≤ 8796093022100) : slEqualAtom K (a, b) = some (decide (a = b)) := by
 unfold slEqualAtom
 try dsimp only
 by_cases hl : a.length = b.length
 ·rw [show P.ieq (P.len a) (P.len b) = true from ieq_iff.2 (by simp [len_eq, hl]), show P.not true = false from rfl, cond_false]
  rw [iter_all (n := a.length) (e := .inl ()) (r := .inr false) (fun i => a.getD i dA = b.getD i dA) K ?_ ?_ (by unfold K; omega)]
  ·rw [bind_some]
   by_cases h : ∀ i, i < a.length → a.getD i dA = b.getD i dA
   ·rw [if_pos h, either_inl, decide_eq_true ((eq_iff_getD hl).1 h)]
   ·rw [if_neg h, either_inr, decide_eq_false fun q => h ((eq_iff_getD hl).2 q)]
  ·intro i hi
   try dsimp only
   rw [show P.ilt (i : Int) (P.len a) = true from ilt_iff.2 (by rw [len_eq]; omega), cond_true, show P.inb (i : Int) (P.len a) = true from inb_iff.2 (by rw [len_eq]; omega), cond_true, show P.inb (i : Int) (P.len b) = true from inb_iff.2 (by rw [len_eq]; omega), cond_true, get_nat, get_nat, wrap_succ (by omega)]
   by_cases q : a.getD i dA = b.getD i dA
   ·rw [show P.and (P.ieq (a.getD i dA).1 (b.getD i dA).1) (P.ieq (a.getD i dA).2 (b.getD i dA).2) = true from eqA_iff.2 q, if_pos q]; rfl
   ·rw [show P.and (P.ieq (a.getD i dA).1 (b.getD i dA).1) (P.ieq (a.getD i dA).2 (b.getD i dA).2) = false from by rw [Bool.eq_false_iff]; exact fun z => q (eqA_iff.1 z), if_neg q]; rfl
  ·try dsimp only
   rw [show P.ilt (a.length : Int) (P.len a) = false from by rw [Bool.eq_false_iff, Ne, ilt_iff, len_eq]; omega]; rfl
 ·rw [show P.ieq (P.len a) (P.len b) = false from by rw [Bool.eq_false_iff, Ne, ieq_iff, len_eq, len_eq]; omega, show P.not false = true from rfl, cond_true, decide_eq_false fun q => hl (by rw [q])]
theorem ref_same (a b : List At) (ha : a.length ≤ 8796093022100) : ref06_Same K (a, b) = some (decide (a = b)) := by
 unfold ref06_Same
 try dsimp only
 by_cases hl : a.length = b.length
 ·rw [show P.ieq (P.len a) (P.len b) = true from ieq_iff.2 (by simp [len_eq, hl]), show P.not true = false from rfl, cond_false]
  rw [iter_all (n := a.length) (e := .inl ()) (r := .inr false) (fun i => a.getD i dA = b.getD i dA) K ?_ ?_ (by unfold K; omega)]
  ·rw [bind_some]
   by_cases h : ∀ i, i < a.length → a.getD i dA = b.getD i dA
   ·rw [if_pos h, either_inl, decide_eq_true ((eq_iff_getD hl).1 h)]
   ·rw [if_neg h, either_inr, decide_eq_false fun q => h ((eq_iff_getD hl).2 q)]
  ·intro i hi
   try dsimp only
   rw [show P.ilt (i : Int) (P.len a) = true from ilt_iff.2 (by rw [len_eq]; omega), cond_true, show P.inb (i : Int) (P.len a) = true from inb_iff.2 (by rw [len_eq]; omega), cond_true, show P.inb (i : Int) (P.len b) = true from inb_iff.2 (by rw [len_eq]; omega), cond_true, get_nat, get_nat, wrap_succ (by omega)]
   by_cases q : a.getD i dA = b.getD i dA
   ·rw [show P.and (P.ieq (a.getD i dA).1 (b.getD i dA).1) (P.ieq (a.getD i dA).2 (b.getD i dA).2) = true from eqA_iff.2 q, if_pos q]; rfl
   ·rw [show P.and (P.ieq (a.getD i dA).1 (b.getD i dA).1) (P.ieq (a.getD i dA).2 (b.getD i dA).2) = false from by rw [Bool.eq_false_iff]; exact fun z => q (eqA_iff.1 z), if_neg q]; rfl
  ·try dsimp only
   rw [show P.ilt (a.length : Int) (P.len a) = false from by rw [Bool.eq_false_iff, Ne, ilt_iff, len_eq]; omega]; rfl
 ·rw [show P.ieq (P.len a) (P.len b) = false from by rw [Bool.eq_false_iff, Ne, ieq_iff, len_eq, len_eq]; omega, show P.not false = true from rfl, cond_true, decide_eq_false fun q => hl (by rw [q])]
theorem mem_iff_getD {l : List At} {x : At} : x ∈ l ↔ ∃ i, i < l.length ∧ l.getD i dA = x := by
 rw [List.mem_iff_getElem]
 constructor
 ·rintro ⟨i, h, rfl⟩; exact ⟨i, h, by simp [List.getD_eq_getElem?_getD, h]⟩
 ·rintro ⟨i, h, rfl⟩; exact ⟨i, h, by simp [List.getD_eq_getElem?_getD, h]⟩
theorem ref_has (l : List At) (x : At) (hl : l.length ≤ 8796093022100) : ref06_Has K (l, x) = some (decide (x ∈ l)) := by
 unfold ref06_Has
 try dsimp only
 rw [iter_all (n := l.length) (e := .inl ()) (r := .inr true) (fun i => l.getD i dA ≠ x) K ?_ ?_ (by unfold K; omega)]
 ·rw [bind_some]
  by_cases h : ∀ i, i < l.length → l.getD i dA ≠ x
  ·rw [if_pos h, either_inl, decide_eq_false]
   intro q
   obtain ⟨i, h1, h2⟩ := mem_iff_getD.1 q
   exact h i h1 h2
  ·rw [if_neg h, either_inr, decide_eq_true]
   refine mem_iff_getD.2 (Classical.byContradiction fun q => h fun i hi e => q ⟨i, hi, e⟩)
 ·intro i hi
  try dsimp only
  rw [show P.ilt (i : Int) (P.len l) = true from ilt_iff.2 (by rw [len_eq]; omega), cond_true, show P.inb (i : Int) (P.len l) = true from inb_iff.2 (by rw [len_eq]; omega), cond_true, get_nat, wrap_succ (by omega)]
  by_cases q : l.getD i dA = x
  ·rw [show P.and (P.ieq (l.getD i dA).1 x.1) (P.ieq (l.getD i dA).2 x.2) = true from eqA_iff.2 q, if_neg (fun z => z q)]; rfl
  ·rw [show P.and (P.ieq (l.getD i dA).1 x.1) (P.ieq (l.getD i dA).2 x.2) = false from by rw [Bool.eq_false_iff]; exact fun z => q (eqA_iff.1 z), if_pos q]; rfl
 ·try dsimp only
  rw [show P.ilt (l.length : Int) (P.len l) = false from by rw [Bool.eq_false_iff, Ne, ilt_iff, len_eq]; omega]; rfl
theorem at_has (l : List At) (x : At) (hl : l.length ≤ 8796093022100) : atoms_Has K (l, x) = some (decide (x ∈ l)) := by
 unfold atoms_Has slContainsAtom slIndexAtom
 try dsimp only
 rw [iter_find0 (n := l.length) (e := .inl ()) (fun i => if l.getD i dA = x then some (.inr (i : Int)) else none) K ?_ ?_ (by unfold K; omega)]
 ·rw [bind_some]
  cases hq : (List.range l.length).findSome? (fun i => if l.getD i dA = x then some (Sum.inr (i : Int) : Unit ⊕ Int) else none) with
  | none =>
   rw [List.findSome?_eq_none_iff] at hq
   simp only [Option.getD_none, either_inl, bind_some]
   have hn : x ∉ l := fun q => by
    obtain ⟨i, h1, h2⟩ := mem_iff_getD.1 q
    have := hq i (List.mem_range.2 h1)
    rw [if_pos h2] at this
    cases this
   rw [decide_eq_false hn]
   rfl
  | some r =>
   obtain ⟨i, h1, h2⟩ := List.exists_of_findSome?_eq_some hq
   by_cases q : l.getD i dA = x
   ·rw [if_pos q] at h2
    injection h2 with h2
    subst h2
    simp only [Option.getD_some, either_inr, bind_some]
    rw [decide_eq_true (mem_iff_getD.2 ⟨i, List.mem_range.1 h1, q⟩), show P.ile ((0 : Int)) (i : Int) = true from ile_iff.2 (by omega)]
   ·rw [if_neg q] at h2; cases h2
 ·intro i hi
  try dsimp only
  rw [show P.ilt (i : Int) (P.len l) = true from ilt_iff.2 (by rw [len_eq]; omega), cond_true, show P.inb (i : Int) (P.len l) = true from inb_iff.2 (by rw [len_eq]; omega), cond_true, get_nat, wrap_succ (by omega)]
  by_cases q : l.getD i dA = x
  ·rw [show P.and (P.ieq x.1 (l.getD i dA).1) (P.ieq x.2 (l.getD i dA).2) = true from eqA_iff.2 q.symm, if_pos q]; rfl
  ·rw [show P.and (P.ieq x.1 (l.getD i dA).1) (P.ieq x.2 (l.getD i dA).2) = false from by rw [Bool.eq_false_iff]; exact fun z => q (eqA_iff.1 z).symm, if_neg q]; rfl
 ·try dsimp only
  rw [show P.ilt (l.length : Int) (P.len l) = false from by rw [Bool.eq_false_iff, Ne, ilt_iff, len_eq]; omega]; rfl
def Within (a b : List At) : Prop := ∀ z, z ∈ a → z ∈ b
instance (a b : List At) : Decidable (Within a b) := by unfold Within; exact inferInstance
theorem within_iff {a b : List At} : (∀ i, i < a.length → a.getD i dA ∈ b) ↔ Within a b := by
 constructor
 ·intro h z hz
  obtain ⟨i, h1, rfl⟩ := mem_iff_getD.1 hz
  exact h i h1
 ·intro h i hi
  exact h _ (mem_iff_getD.2 ⟨i, hi, rfl⟩)
theorem within_gen (H : Nat → List At × At → Option Bool) (a b : List At) (ha : a.length ≤ 8796093022100) (hh : ∀ x, H K (b, x) = some (decide (x ∈ b))) :
  P.bind (P.iter K (fun (y : Int) => P.cond (P.ilt y (P.len a)) (P.cond (P.inb y (P.len a)) (P.bind (H K (b, P.get a y ((0 : Int), (0 : Int)))) fun (r : Bool) => P.cond (P.not r) (some (Sum.inr (Sum.inr false))) (some (Sum.inl (P.wrap IntKind.i64 (P.add y ((1 : Int))))))) none) (some (Sum.inr (Sum.inl PUnit.unit)))) ((0 : Int))) (P.either (fun (z : PUnit) => some true) fun (r : Bool) => some r) = some (decide (Within a b)) := by
 rw [iter_all (n := a.length) (e := .inl ()) (r := .inr false) (fun i => a.getD i dA ∈ b) K ?_ ?_ (by unfold K; omega)]
 ·rw [bind_some]
  by_cases h : ∀ i, i < a.length → a.getD i dA ∈ b
  ·rw [if_pos h, either_inl, decide_eq_true (within_iff.1 h)]
  ·rw [if_neg h, either_inr, decide_eq_false fun q => h (within_iff.2 q)]
 ·intro i hi
  try dsimp only
  rw [show P.ilt (i : Int) (P.len a) = true from ilt_iff.2 (by rw [len_eq]; omega), cond_true, show P.inb (i : Int) (P.len a) = true from inb_iff.2 (by rw [len_eq]; omega), cond_true, get_nat, hh, bind_some, wrap_succ (by omega)]
  by_cases q : a.getD i dA ∈ b
  ·rw [if_pos q, decide_eq_true q]; rfl
  ·rw [if_neg q, decide_eq_false q]; rfl
 ·try dsimp only
  rw [show P.ilt (a.length : Int) (P.len a) = false from by rw [Bool.eq_false_iff, Ne, ilt_iff, len_eq]; omega]; rfl
theorem at_within (a b : List At) (ha : a.length ≤ 8796093022100) (hb : b.length ≤ 8796093022100) : atoms_Within K (a, b) = some (decide (Within a b)) := within_gen atoms_Has a b ha fun x => at_has b x hb
theorem ref_within (a b : List At) (ha : a.length ≤ 8796093022100) (hb : b.length ≤ 8796093022100) : ref06_Within K (a, b) = some (decide (Within a b)) := within_gen ref06_Has a b ha fun x => ref_has b x hb
theorem at_may (l : List At) (hl : l.length ≤ 8796093022100) : atoms_May K l = some (decide (l = norm l)) := by
 unfold atoms_May
 rw [at_norm' l hl, bind_some, at_equal l _ hl, bind_some]
end Go.PL
end
section
open Go Go.PG Go.PL
set_option linter.unusedVariables false
namespace Go.PL
theorem ref_right (k : Nat) (a : At) : ref06_Right k a = some (decide (RightA a)) := by
 obtain ⟨a, b⟩ := a
 unfold ref06_Right
 dsimp only
 simp only [cond_eq, ieq_iff, ile_iff]
 repeat' split
 all_goals
  rw [Option.some.injEq, Bool.eq_iff_iff, decide_eq_true_eq]
  simp only [RightA, ieq_iff, ile_iff, Bool.false_eq_true, false_iff]
  omega
theorem ref_less (k : Nat) (a b : At) : ref06_Less k (a, b) = some (decide (ltA a b)) := by
 obtain ⟨a1, a2⟩ := a; obtain ⟨b1, b2⟩ := b
 unfold ref06_Less
 dsimp only
 simp only [cond_eq, ieq_iff, ilt_iff]
 repeat' split
 all_goals
  rw [Option.some.injEq, Bool.eq_iff_iff, decide_eq_true_eq]
  simp only [ltA, ilt_iff, true_iff, Bool.false_eq_true, false_iff]
  omega
theorem room1 (l : List At) (x : At) (h : l.length ≤ 8796093022200) : P.room (P.add (P.len l) (P.len [x])) 16 = true := by
 rw [len_eq, len_eq, room_nat]; simp; omega
def stepA (x : At) (s : List At × Bool) (y : At) : List At × Bool := if s.2 = false ∧ ltA x y then (s.1 ++ [x] ++ [y], true) else (s.1 ++ [y], s.2)
def finA (x : At) (s : List At × Bool) : List At := if s.2 = true then s.1 else s.1 ++ [x]
def layA (x : At) (l : List At) (i : Nat) : List At × Bool := (l.take i).foldl (stepA x) ([], false)
theorem layA_succ {x : At} {l : List At} {i : Nat} (h : i < l.length) : layA x l (i + 1) = stepA x (layA x l i) (l.getD i dA) := by
 unfold layA
 rw [take_getD h, List.foldl_append]
 rfl
theorem lay_len (x : At) (l : List At) : ∀ i, i ≤ l.length → (layA x l i).1.length ≤ i + 1 ∧ ((layA x l i).2 = false → (layA x l i).1.length ≤ i)
 | 0, _ => by simp [layA]
 | i + 1, h => by
  obtain ⟨h1, h2⟩ := lay_len x l i (by omega)
  rw [layA_succ (by omega)]
  unfold stepA
  split
  ·rename_i q
   have := h2 q.1
   simp; omega
  ·simp
   exact ⟨h1, fun q => h2 q⟩
theorem step_true (x : At) : ∀ (l acc : List At), l.foldl (stepA x) (acc, true) = (acc ++ l, true)
 | [], acc => by simp
 | y :: l, acc => by
  rw [List.foldl_cons, show stepA x (acc, true) y = (acc ++ [y], true) from by simp [stepA], step_true x l]
  simp
theorem step_false (x : At) : ∀ (l acc : List At), finA x (l.foldl (stepA x) (acc, false)) = acc ++ insA x l
 | [], acc => by simp [insA, finA]
 | y :: l, acc => by
  rw [List.foldl_cons]
  unfold insA
  by_cases q : ltA x y
  ·rw [show stepA x (acc, false) y = (acc ++ [x] ++ [y], true) from by simp [stepA, q], step_true, if_pos q]; simp [finA]
  ·rw [show stepA x (acc, false) y = (acc ++ [y], false) from by simp [stepA, q], step_false x l, if_neg q]; simp
theorem lay_all (x : At) (l : List At) : finA x (layA x l l.length) = insA x l := by
 have := step_false x l []
 unfold layA
 rw [List.take_length]
 simpa using this
theorem ref_add (l : List At) (x : At) (hl : l.length ≤ 8796093022100) : ref06_add K (l, x) = some (addA l x) := by
 unfold ref06_add
 dsimp only
 rw [ref_right, bind_some]
 by_cases h1 : RightA x
 ·rw [decide_eq_true h1, show P.not true = false from rfl, cond_false, ref_has l x hl, bind_some]
  by_cases h2 : x ∈ l
  ·rw [decide_eq_true h2, cond_true]
   unfold addA
   rw [if_neg (fun q => q.2 h2)]
  ·rw [decide_eq_false h2, cond_false]
   unfold addA
   rw [if_pos ⟨h1, h2⟩, ← lay_all]
   have run : ∀ f : List At × Bool × Int → Option ((List At × Bool × Int) ⊕ ((List At × Bool) ⊕ List At)),
     (∀ i, i < l.length → f ((layA x l i).1, (layA x l i).2, (i : Int)) = some (.inl ((layA x l (i + 1)).1, (layA x l (i + 1)).2, ((i + 1 : Nat) : Int)))) →
     f ((layA x l l.length).1, (layA x l l.length).2, (l.length : Int)) = some (.inr (.inl (layA x l l.length))) → P.iter K f ([], false, (0 : Int)) = some (.inl (layA x l l.length)) := by
    intro f hs he
    exact iter_run (fun i => ((layA x l i).1, (layA x l i).2, (i : Int))) _ l.length 0 K (by unfold K; omega) (fun j hj => by simpa using hs j hj) (by simpa using he)
   rw [run _ (fun i hi => ?_) ?_]
   ·rw [bind_some, either_inl]
    cases hb : (layA x l l.length).2
    ·rw [show P.not false = true from rfl, cond_true, room1 _ _ (by have := (lay_len x l l.length (Nat.le_refl _)).1; omega), cond_true]
     unfold finA
     rw [if_neg (by simp [hb])]; rfl
    ·rw [show P.not true = false from rfl, cond_false]
     unfold finA
     rw [if_pos hb]
   ·try dsimp only
    rw [show P.ilt (l.length : Int) (P.len l) = false from by rw [Bool.eq_false_iff, Ne, ilt_iff, len_eq]; omega]; rfl
   ·try dsimp only
    have hr := (lay_len x l i (by omega)).1
    have r1 : P.room (P.add (P.len (layA x l i).1) (P.len [x])) 16 = true := room1 _ _ (by omega)
    have r2 : P.room (P.add (P.len (layA x l i).1) (P.len [l.getD i dA])) 16 = true := room1 _ _ (by omega)
    have r3 : P.room (P.add (P.len (P.app (layA x l i).1 [x])) (P.len [l.getD i dA])) 16 = true := room1 _ _ (by simp [P.app]; omega)
    simp only [show P.ilt (i : Int) (P.len l) = true from ilt_iff.2 (by rw [len_eq]; omega), show P.inb (i : Int) (P.len l) = true from inb_iff.2 (by rw [len_eq]; omega), cond_true, get_nat, wrap_succ (show i + 1 < 9223372036854775808 by omega), r1, r2, r3]
    rw [ref_less, bind_some, layA_succ hi]
    unfold stepA
    cases hb : (layA x l i).2
    ·rw [show P.not false = true from rfl, cond_true]
     by_cases q : ltA x (l.getD i dA)
     ·rw [decide_eq_true q, cond_true, if_pos ⟨rfl, q⟩]; rfl
     ·rw [decide_eq_false q, cond_false, if_neg (fun z => q z.2)]; rfl
    ·rw [show P.not true = false from rfl, cond_false, if_neg (fun z => by cases z.1)]; rfl
 ·rw [decide_eq_false h1, show P.not false = true from rfl, cond_true]
  unfold addA
  rw [if_neg (fun q => h1 q.1)]
theorem fold_add (l acc : List At) (h : acc.length + l.length ≤ 8796093022000) :
  P.bind (P.iter K (fun (y : List (Int × Int) × Int) => P.cond (P.ilt y.snd (P.len l)) (P.cond (P.inb y.snd (P.len l)) (P.bind (ref06_add K (y.fst, P.get l y.snd ((0 : Int), (0 : Int)))) fun (r : List (Int × Int)) => some (Sum.inl (r, P.wrap IntKind.i64 (P.add y.snd ((1 : Int)))))) none) (some (Sum.inr (Sum.inl y.fst)))) (acc, (0 : Int))) (P.either (fun (z : List (Int × Int)) => some z) fun (r : List (Int × Int)) => some r) = some (l.foldl addA acc) := by
 have run : ∀ f : List At × Int → Option ((List At × Int) ⊕ (List At ⊕ List At)),
   (∀ i, i < l.length → f ((l.take i).foldl addA acc, (i : Int)) = some (.inl ((l.take (i + 1)).foldl addA acc, ((i + 1 : Nat) : Int)))) →
   f (l.foldl addA acc, (l.length : Int)) = some (.inr (.inl (l.foldl addA acc))) → P.iter K f (acc, (0 : Int)) = some (.inl (l.foldl addA acc)) := by
  intro f hs he
  exact iter_run (fun i => ((l.take i).foldl addA acc, (i : Int))) _ l.length 0 K (by unfold K; omega) (fun j hj => by simpa using hs j hj) (by simpa using he)
 rw [run _ (fun i hi => ?_) ?_]
 ·rfl
 ·try dsimp only
  rw [show P.ilt (l.length : Int) (P.len l) = false from by rw [Bool.eq_false_iff, Ne, ilt_iff, len_eq]; omega]; rfl
 ·try dsimp only
  have hr := fold_length (l.take i) acc
  rw [List.length_take] at hr
  rw [show P.ilt (i : Int) (P.len l) = true from ilt_iff.2 (by rw [len_eq]; omega), cond_true, show P.inb (i : Int) (P.len l) = true from inb_iff.2 (by rw [len_eq]; omega), cond_true, get_nat, wrap_succ (by omega), ref_add _ _ (by omega), bind_some, take_getD hi, List.foldl_append]
  rfl
theorem ref_norm (l : List At) (h : l.length ≤ 8796093022000) : ref06_Norm K l = some (norm l) := fold_add l [] (by simpa using h)
theorem ref_may (l : List At) (h : l.length ≤ 8796093022000) : ref06_May K l = some (decide (l = norm l)) := by
 unfold ref06_May
 rw [ref_norm l h, bind_some, ref_same l _ (by omega), bind_some]
theorem norm_append (a b : List At) : norm (a ++ b) = b.foldl addA (norm a) := by unfold norm; rw [List.foldl_append]
theorem ref_union (a b : List At) (h : a.length + b.length ≤ 8796093022000) : ref06_Union K (a, b) = some (norm (a ++ b)) := by
 unfold ref06_Union
 dsimp only
 rw [ref_norm a (by omega), bind_some, norm_append]
 exact fold_add b (norm a) (by have := norm_length a; omega)
end Go.PL
end
section
open Go Go.PG Go.PL
set_option linter.unusedVariables false
namespace Go.PL
theorem wrap0 : P.wrap IntKind.i64 (P.sub ((0 : Int)) ((0 : Int))) = 0 := by rw [wrap_i64 (by decide) (by decide)]; rfl
theorem wrap_sub0 {n : Nat} (h : n < 9223372036854775808) : P.wrap IntKind.i64 (P.sub (n : Int) (0 : Int)) = (n : Int) := by
 rw [show P.sub (n : Int) (0 : Int) = n from by simp [P.sub], wrap_nat h]
theorem at_concat (a b : List At) (h : a.length + b.length ≤ 8796093022000) : slConcatAtom K [a, b] = some (a ++ b) := by
 have run1 : ∀ f : Int × Int → Option ((Int × Int) ⊕ (Int ⊕ List At)), f (0, 0) = some (.inl ((a.length : Int), 1)) → f ((a.length : Int), 1) = some (.inl (((a.length + b.length : Nat) : Int), 2)) →
   f (((a.length + b.length : Nat) : Int), 2) = some (.inr (.inl ((a.length + b.length : Nat) : Int))) → P.iter K f (0, 0) = some (.inl ((a.length + b.length : Nat) : Int)) := by
  intro f h1 h2 h3
  rw [iter_step (by unfold K; omega) h1, iter_step (by unfold K; omega) h2, iter_done (by unfold K; omega) h3]
 have run2 : ∀ f : List At × Int → Option ((List At × Int) ⊕ (List At ⊕ List At)), f ([], 0) = some (.inl (a, 1)) → f (a, 1) = some (.inl (a ++ b, 2)) →
   f (a ++ b, 2) = some (.inr (.inl (a ++ b))) → P.iter K f ([], 0) = some (.inl (a ++ b)) := by
  intro f h1 h2 h3
  rw [iter_step (by unfold K; omega) h1, iter_step (by unfold K; omega) h2, iter_done (by unfold K; omega) h3]
 have l0 : P.ilt (0 : Int) (P.len [a, b]) = true := rfl
 have l1 : P.ilt (1 : Int) (P.len [a, b]) = true := rfl
 have l2 : P.ilt (2 : Int) (P.len [a, b]) = false := rfl
 have i0 : P.inb (0 : Int) (P.len [a, b]) = true := rfl
 have i1 : P.inb (1 : Int) (P.len [a, b]) = true := rfl
 have g0 : P.get [a, b] (0 : Int) [] = a := rfl
 have g1 : P.get [a, b] (1 : Int) [] = b := rfl
 have w1 : P.wrap IntKind.i64 (P.add (0 : Int) (1 : Int)) = 1 := by rw [wrap_i64 (by decide) (by decide)]; rfl
 have w2 : P.wrap IntKind.i64 (P.add (1 : Int) (1 : Int)) = 2 := by rw [wrap_i64 (by decide) (by decide)]; rfl
 have s1 : P.wrap IntKind.i64 (P.add (0 : Int) (P.len a)) = (a.length : Int) := by rw [show P.add (0 : Int) (P.len a) = ((a.length : Nat) : Int) from by simp [P.add, P.len], wrap_nat (by omega)]
 have s2 : P.wrap IntKind.i64 (P.add (a.length : Int) (P.len b)) = ((a.length + b.length : Nat) : Int) := by rw [show P.add (a.length : Int) (P.len b) = ((a.length + b.length : Nat) : Int) from by simp [P.add, P.len], wrap_nat (by omega)]
 have loop : ∀ E : List At, E = [] → P.bind (P.iter K (fun (y : List (Int × Int) × Int) => P.cond (P.ilt y.snd (P.len [a, b])) (P.cond (P.inb y.snd (P.len [a, b])) (P.cond (P.room (P.add (P.len y.fst) (P.len (P.get [a, b] y.snd []))) 16) (some (Sum.inl (P.app y.fst (P.get [a, b] y.snd []), P.wrap IntKind.i64 (P.add y.snd ((1 : Int)))))) none) none) (some (Sum.inr (Sum.inl y.fst)))) (E, (0 : Int))) (P.either (fun (z : List (Int × Int)) => some z) fun (r : List (Int × Int)) => some r) = some (a ++ b) := by
  rintro E rfl
  rw [run2 _ ?_ ?_ ?_]
  ·rfl
  ·try dsimp only
   rw [l0, cond_true, i0, cond_true, g0, w1, show P.room (P.add (P.len ([] : List At)) (P.len a)) 16 = true from by rw [len_eq, len_eq, room_nat]; simp; omega]; rfl
  ·try dsimp only
   rw [l1, cond_true, i1, cond_true, g1, w2, show P.room (P.add (P.len a) (P.len b)) 16 = true from by rw [len_eq, len_eq, room_nat]; omega]; rfl
  ·try dsimp only
   rw [l2]; rfl
 unfold slConcatAtom
 rw [run1 _ ?_ ?_ ?_]
 ·rw [bind_some, either_inl, show P.ilt (((a.length + b.length : Nat) : Int)) (0 : Int) = false from by rw [Bool.eq_false_iff, Ne, ilt_iff]; omega, cond_false, wrap0, wrap_sub0 (by omega)]
  by_cases h0 : P.ilt (0 : Int) (((a.length + b.length : Nat) : Int)) = true
  ·rw [h0, cond_true, show P.cut (0 : Int) 0 0 = true from by decide, cond_true, cond_true, show P.room (((a.length + b.length : Nat) : Int)) 16 = true from by rw [room_iff]; omega, cond_true, show P.cut (0 : Int) 0 (P.len (P.rep (((a.length + b.length : Nat) : Int)) (((0 : Int), (0 : Int)) : At))) = true from by rw [cut_iff, len_eq]; omega, cond_true]
   exact loop _ (by simp [P.sub_])
  ·rw [Bool.eq_false_iff.2 h0, cond_false]
   exact loop _ rfl
 ·try dsimp only
  rw [l0, cond_true, i0, cond_true, g0, w1, s1, show P.ilt (a.length : Int) (0 : Int) = false from by rw [Bool.eq_false_iff, Ne, ilt_iff]; omega]; rfl
 ·try dsimp only
  rw [l1, cond_true, i1, cond_true, g1, w2, s2, show P.ilt (((a.length + b.length : Nat) : Int)) (0 : Int) = false from by rw [Bool.eq_false_iff, Ne, ilt_iff]; omega]; rfl
 ·try dsimp only
  rw [l2]; rfl
theorem at_union (a b : List At) (h : a.length + b.length ≤ 8796093022000) : atoms_Union K (a, b) = some (norm (a ++ b)) := by
 unfold atoms_Union
 dsimp only
 rw [at_concat a b h, bind_some, at_norm' _ (by simp; omega), bind_some]
def renA (s : Int) (x : At) : At := if x = (4, s) then (5, s) else x
end Go.PL
end
section
open Go Go.PG Go.PL
set_option linter.unusedVariables false
namespace Go.PL
end Go.PL
end
section
open Go Go.PG Go.PL
set_option linter.unusedVariables false
namespace Go.PL
abbrev Fd := ByteArray × Bool × List At
abbrev Sp := List Fd × List At
abbrev dF : Fd := (⟨#[]⟩, false, [])
abbrev RisesF (l : List Fd) : Prop := l.Pairwise fun a b => ltS a.1 b.1
def get (l : List Fd) (n : ByteArray) : Option Fd := l.find? fun f => decide (f.1 = n)
theorem get_name {l : List Fd} {n : ByteArray} {f : Fd} (h : get l n = some f) : f.1 = n := by
 have := List.find?_some h
 exact of_decide_eq_true this
theorem get_mem {l : List Fd} {n : ByteArray} {f : Fd} (h : get l n = some f) : f ∈ l := List.mem_of_find?_eq_some h
theorem get_none {l : List Fd} {n : ByteArray} : get l n = none ↔ ∀ f, f ∈ l → f.1 ≠ n := by
 unfold get
 rw [List.find?_eq_none]
 constructor
 ·intro h f hf e
  exact h f hf (decide_eq_true e)
 ·intro h f hf e
  exact h f hf (of_decide_eq_true e)
theorem risesF_inj {l : List Fd} (h : RisesF l) {f g : Fd} (hf : f ∈ l) (hg : g ∈ l) (e : f.1 = g.1) : f = g := by
 induction l with
 | nil => cases hf
 | cons a l ih =>
  obtain ⟨h1, h2⟩ := List.pairwise_cons.1 h
  rcases List.mem_cons.1 hf with rfl | hf'
  ·rcases List.mem_cons.1 hg with rfl | hg'
   ·rfl
   ·exact absurd (h1 g hg') (by rw [e]; exact ltS_irrefl _)
  ·rcases List.mem_cons.1 hg with rfl | hg'
   ·exact absurd (h1 f hf') (by rw [e]; exact ltS_irrefl _)
   ·exact ih h2 hf' hg'
theorem get_of_mem {l : List Fd} (h : RisesF l) {f : Fd} (hf : f ∈ l) : get l f.1 = some f := by
 cases q : get l f.1 with
 | none => exact absurd rfl (get_none.1 q f hf)
 | some g => rw [risesF_inj h (get_mem q) hf (get_name q)]
theorem risesF_ext : ∀ {l m : List Fd}, RisesF l → RisesF m → (∀ n, get l n = get m n) → l = m := by
 intro l
 induction l with
 | nil =>
  intro m _ _ h
  cases m with
  | nil => rfl
  | cons b m =>
   have := h b.1
   simp [get] at this
 | cons a l ih =>
  intro m hl hm h
  cases m with
  | nil =>
   have := h a.1
   simp [get] at this
  | cons b m =>
   obtain ⟨h1, h2⟩ := List.pairwise_cons.1 hl
   obtain ⟨h3, h4⟩ := List.pairwise_cons.1 hm
   have ea := h a.1
   rw [get_of_mem hl (by simp)] at ea
   have eb := h b.1
   rw [get_of_mem hm (by simp)] at eb
   have hab : a = b := by
    rcases List.mem_cons.1 (get_mem ea.symm) with q | q
    ·exact q
    ·rcases List.mem_cons.1 (get_mem eb) with q' | q'
     ·exact q'.symm
     ·exact absurd (ltS_trans (h3 a q) (h1 b q')) (ltS_irrefl _)
   subst hab
   congr 1
   refine ih h2 h4 fun n => ?_
   by_cases q : a.1 = n
   ·subst q
    have n1 : get l a.1 = none := get_none.2 fun f hf e => absurd (h1 f hf) (by rw [e]; exact ltS_irrefl _)
    have n2 : get m a.1 = none := get_none.2 fun f hf e => absurd (h3 f hf) (by rw [e]; exact ltS_irrefl _)
    rw [n1, n2]
   ·have := h n
    simpa [get, q] using this
def put (l : List Fd) (f : Fd) : List Fd := match l with
 | [] => [f]
 | g :: r => if ltS f.1 g.1 then f :: g :: r else if f.1 = g.1 then f :: r else g :: put r f
theorem put_names {f g : Fd} : ∀ {l : List Fd}, g ∈ put l f → g = f ∨ (g ∈ l ∧ True) := by
 intro l
 induction l with
 | nil => intro h; simp only [put, List.mem_singleton] at h; exact .inl h
 | cons a l ih =>
  intro h
  simp only [put] at h
  split at h
  ·rcases List.mem_cons.1 h with h | h
   ·exact .inl h
   ·exact .inr ⟨h, trivial⟩
  ·split at h
   ·rcases List.mem_cons.1 h with h | h
    ·exact .inl h
    ·exact .inr ⟨List.mem_cons_of_mem _ h, trivial⟩
   ·rcases List.mem_cons.1 h with h | h
    ·exact .inr ⟨by rw [h]; simp, trivial⟩
    ·rcases ih h with q | q
     ·exact .inl q
     ·exact .inr ⟨List.mem_cons_of_mem _ q.1, trivial⟩
theorem put_rises {f : Fd} : ∀ {l : List Fd}, RisesF l → RisesF (put l f) := by
 intro l
 induction l with
 | nil => intro _; exact List.pairwise_singleton _ _
 | cons a l ih =>
  intro h
  obtain ⟨h1, h2⟩ := List.pairwise_cons.1 h
  simp only [put]
  split
  ·rename_i q
   refine List.pairwise_cons.2 ⟨fun g hg => ?_, h⟩
   rcases List.mem_cons.1 hg with rfl | hg
   ·exact q
   ·exact ltS_trans q (h1 g hg)
  ·rename_i q
   split
   ·rename_i e
    exact List.pairwise_cons.2 ⟨fun g hg => by rw [e]; exact h1 g hg, h2⟩
   ·rename_i e
    refine List.pairwise_cons.2 ⟨fun g hg => ?_, ih h2⟩
    rcases put_names hg with rfl | hg
    ·rcases ltS_tri g.1 a.1 with z | z | z
     ·exact absurd z q
     ·exact absurd z e
     ·exact z
    ·exact h1 g hg.1
theorem get_put {f : Fd} {n : ByteArray} : ∀ {l : List Fd}, RisesF l → get (put l f) n = if f.1 = n then some f else get l n := by
 intro l
 induction l with
 | nil => intro _; simp only [put, get, List.find?_cons, List.find?_nil]; by_cases q : f.1 = n <;> simp [q]
 | cons a l ih =>
  intro h
  obtain ⟨h1, h2⟩ := List.pairwise_cons.1 h
  simp only [put]
  split
  ·simp only [get, List.find?_cons]
   by_cases q : f.1 = n <;> simp [q]
  ·split
   ·rename_i e
    simp only [get, List.find?_cons]
    by_cases q : f.1 = n
    ·simp [q]
    ·have : ¬ a.1 = n := by rw [← e]; exact q
     simp [q, this]
   ·rename_i e1 e
    have := ih h2
    simp only [get, List.find?_cons] at this ⊢
    by_cases q : a.1 = n
    ·have : ¬ f.1 = n := by rw [← q]; exact e
     simp [q, this]
    ·simp only [q, decide_false]
     exact this
end Go.PL
end
section
open Go Go.PG Go.PL
set_option linter.unusedVariables false
namespace Go.PL
def pos (l : List Fd) (n : ByteArray) : Nat := match l with
 | [] => 0
 | f :: r => if ltS f.1 n then pos r n + 1 else 0
theorem pos_le (n : ByteArray) : ∀ l : List Fd, pos l n ≤ l.length
 | [] => Nat.le_refl _
 | f :: r => by
  simp only [pos]; split
  ·simp; exact pos_le n r
  ·simp
theorem lt_pos {n : ByteArray} : ∀ {l : List Fd}, RisesF l → ∀ i, i < l.length → (i < pos l n ↔ ltS (l.getD i dF).1 n) := by
 intro l
 induction l with
 | nil => intro _ i h; simp at h
 | cons f r ih =>
  intro h i hi
  obtain ⟨h1, h2⟩ := List.pairwise_cons.1 h
  simp only [pos]
  cases i with
  | zero =>
   split
   ·rename_i q; simp [q]
   ·rename_i q; simp [q]
  | succ i =>
   simp only [List.length_cons] at hi
   have := ih h2 i (by omega)
   simp only [List.getD_cons_succ]
   split
   ·rw [← this]; omega
   ·rename_i q
    refine ⟨fun z => by omega, fun z => ?_⟩
    exfalso
    have hm : r.getD i dF ∈ r := by
     rw [List.getD_eq_getElem?_getD, List.getElem?_eq_getElem (by omega)]
     exact List.getElem_mem _
    exact q (ltS_trans (h1 _ hm) z)
theorem at_pos {n : ByteArray} : ∀ {l : List Fd}, RisesF l → (get l n).isSome = (decide (pos l n < l.length) && decide ((l.getD (pos l n) dF).1 = n)) := by
 intro l
 induction l with
 | nil => intro _; simp [get, pos]
 | cons f r ih =>
  intro h
  obtain ⟨h1, h2⟩ := List.pairwise_cons.1 h
  simp only [pos]
  split
  ·rename_i q
   have hne : f.1 ≠ n := fun e => by rw [e] at q; exact ltS_irrefl _ q
   have := ih h2
   simp only [get, List.find?_cons, hne, decide_false, List.getD_cons_succ, List.length_cons] at this ⊢
   rw [this]
   simp
  ·rename_i q
   simp only [List.getD_cons_zero, List.length_cons]
   by_cases e : f.1 = n
   ·simp [get, e]
   ·have : get (f :: r) n = none := get_none.2 fun g hg e' => by
     rcases List.mem_cons.1 hg with rfl | hg
     ·exact e e'
     ·exact q (by rw [← e']; exact h1 g hg)
    rw [this]
    simp [e]
theorem get_at_pos {n : ByteArray} {l : List Fd} (h : RisesF l) (hs : (get l n).isSome = true) : get l n = some (l.getD (pos l n) dF) := by
 rw [at_pos h, Bool.and_eq_true, decide_eq_true_eq, decide_eq_true_eq] at hs
 have hm : l.getD (pos l n) dF ∈ l := by
  rw [List.getD_eq_getElem?_getD, List.getElem?_eq_getElem hs.1]
  exact List.getElem_mem _
 have := get_of_mem h hm
 rwa [hs.2] at this
theorem put_eq {f : Fd} : ∀ {l : List Fd}, RisesF l → put l f = if (get l f.1).isSome = true then l.set (pos l f.1) f else l.take (pos l f.1) ++ [f] ++ l.drop (pos l f.1) := by
 intro l
 induction l with
 | nil => intro _; simp [put, get, pos]
 | cons a r ih =>
  intro h
  obtain ⟨h1, h2⟩ := List.pairwise_cons.1 h
  simp only [put, pos]
  split
  ·rename_i q
   have n1 : ¬ ltS a.1 f.1 := ltS_asymm q
   have : get (a :: r) f.1 = none := get_none.2 fun g hg e => by
    rcases List.mem_cons.1 hg with rfl | hg
    ·rw [e] at q; exact ltS_irrefl _ q
    ·exact ltS_irrefl f.1 (by have := ltS_trans q (h1 g hg); rwa [e] at this)
   rw [this, if_neg n1]
   simp
  ·rename_i q
   split
   ·rename_i e
    have : (get (a :: r) f.1).isSome = true := by simp [get, e]
    rw [if_pos this, if_neg (show ¬ ltS a.1 f.1 by rw [e]; exact ltS_irrefl _)]
    simp
   ·rename_i e
    have lt : ltS a.1 f.1 := by
     rcases ltS_tri f.1 a.1 with z | z | z
     ·exact absurd z q
     ·exact absurd z e
     ·exact z
    rw [if_pos lt, ih h2]
    have : (get (a :: r) f.1).isSome = (get r f.1).isSome := by
     simp [get, Ne.symm e]
    rw [this]
    split
    ·simp
    ·simp
theorem half {i j : Nat} (h : i + j < 9223372036854775808) : P.wrap IntKind.i64 (P.shrk IntKind.u64 (P.wrap IntKind.u64 (P.wrap IntKind.i64 (P.add (i : Int) (j : Int)))) (1 : Int)) = (((i + j) / 2 : Nat) : Int) := by
 rw [show P.add (i : Int) (j : Int) = ((i + j : Nat) : Int) from by simp [P.add], wrap_nat h, wrap_u64 (by omega) (by omega)]
 have : P.shrk IntKind.u64 ((i + j : Nat) : Int) (1 : Int) = (((i + j) / 2 : Nat) : Int) := by
  simp only [P.shrk]
  rw [show (2 : Int) ^ min (1 : Int).toNat IntKind.u64.bits = 2 from by decide, Int.fdiv_eq_ediv_of_nonneg _ (by decide)]
  omega
 rw [this, wrap_nat (by omega)]
theorem find_spec (l : List Fd) (n : ByteArray) (h : RisesF l) (hl : l.length ≤ 1000000) : object_find K (l, n) = some ((pos l n : Int), (get l n).isSome) := by
 unfold object_find
 try dsimp only
 have loop : ∀ (f : Int × Int → Option ((Int × Int) ⊕ (Int ⊕ (Int × Bool)))),
   (∀ i j : Nat, i < j → j ≤ l.length → f ((i : Int), (j : Int)) = some (.inl (if ltS (l.getD ((i + j) / 2) dF).1 n then ((((i + j) / 2 + 1 : Nat) : Int), (j : Int)) else ((i : Int), (((i + j) / 2 : Nat) : Int))))) →
   (∀ i : Nat, f ((i : Int), (i : Int)) = some (.inr (.inl (i : Int)))) →
   ∀ (d i j k : Nat), j - i ≤ d → d < k → i ≤ pos l n → pos l n ≤ j → j ≤ l.length → P.iter k f ((i : Int), (j : Int)) = some (.inl (pos l n : Int)) := by
  intro f hs he d
  induction d with
  | zero =>
   intro i j k hd hk h1 h2 h3
   have : j = i := by omega
   subst this
   have : pos l n = j := by omega
   rw [this]
   exact iter_done (by omega) (he j)
  | succ d ih =>
   intro i j k hd hk h1 h2 h3
   by_cases hij : i = j
   ·subst hij
    have : pos l n = i := by omega
    rw [this]
    exact iter_done (by omega) (he i)
   ·have hstep := hs i j (by omega) h3
    have hlt := lt_pos (n := n) h ((i + j) / 2) (by omega)
    by_cases q : ltS (l.getD ((i + j) / 2) dF).1 n
    ·rw [if_pos q] at hstep
     rw [iter_step (by omega) hstep]
     have := hlt.2 q
     exact ih _ _ (k - 1) (by omega) (by omega) (by omega) h2 h3
    ·rw [if_neg q] at hstep
     rw [iter_step (by omega) hstep]
     have : ¬ (i + j) / 2 < pos l n := fun z => q (hlt.1 z)
     exact ih _ _ (k - 1) (by omega) (by omega) h1 (by omega) (by omega)
 have hrun := fun f hs he => loop f hs he l.length 0 l.length K (by omega) (by unfold K; omega) (by omega) (pos_le n l) (Nat.le_refl _)
 rw [show ((0 : Nat) : Int) = (0 : Int) from rfl] at hrun
 rw [len_eq, hrun _ ?_ ?_]
 ·rw [bind_some, either_inl]
  rw [at_pos h]
  by_cases q : pos l n < l.length
  ·rw [show P.ilt (pos l n : Int) (l.length : Int) = true from ilt_iff.2 (by omega), cond_true, show P.inb (pos l n : Int) (l.length : Int) = true from inb_iff.2 (by omega), cond_true, get_nat]
   unfold strings_Compare
   rw [bind_some, decide_eq_true q, Bool.true_and]
   congr 2
   rw [Bool.eq_iff_iff, ieq_iff, decide_eq_true_eq]
   exact cmpS_eq
  ·rw [show P.ilt (pos l n : Int) (l.length : Int) = false from by rw [Bool.eq_false_iff, Ne, ilt_iff]; omega, cond_false, decide_eq_false q, Bool.false_and]
 ·intro i j hij hj
  try dsimp only
  rw [show P.ilt (i : Int) (j : Int) = true from ilt_iff.2 (by omega), cond_true, show P.ile ((0 : Int)) ((1 : Int)) = true from by decide, cond_true, half (by omega), show P.inb (((i + j) / 2 : Nat) : Int) (l.length : Int) = true from inb_iff.2 (by omega), cond_true, get_nat]
  unfold strings_Compare
  rw [bind_some, wrap_succ (by omega)]
  by_cases q : ltS (l.getD ((i + j) / 2) dF).1 n
  ·rw [show P.ilt (Lib.compareBytes (l.getD ((i + j) / 2) dF).1.data.toList n.data.toList) ((0 : Int)) = true from ilt_iff.2 (cmpS_lt.2 q), cond_true, if_pos q]
  ·rw [show P.ilt (Lib.compareBytes (l.getD ((i + j) / 2) dF).1.data.toList n.data.toList) ((0 : Int)) = false from by rw [Bool.eq_false_iff]; exact fun z => q (cmpS_lt.1 (ilt_iff.1 z)), cond_false, if_neg q]
 ·intro i
  try dsimp only
  rw [show P.ilt (i : Int) (i : Int) = false from by rw [Bool.eq_false_iff, Ne, ilt_iff]; omega]
  rfl
end Go.PL
end
section
open Go Go.PG Go.PL
set_option linter.unusedVariables false
namespace Go.PL
def FewS (s : Sp) : Prop := s.1.length ≤ 100000 ∧ (∀ f, f ∈ s.1 → f.2.2.length ≤ 100000) ∧ s.2.length ≤ 100000
theorem range_map {α : Type} (l : List α) (d : α) : (List.range l.length).map (fun i => l.getD i d) = l := by
 apply List.ext_getElem
 ·simp
 ·intro i h1 h2
  simp at h1
  simp [List.getD_eq_getElem?_getD, h1]
theorem find_range {ρ : Type} (l : List Fd) (n : ByteArray) (g : Fd → ρ) : (List.range l.length).findSome? (fun i => if (l.getD i dF).1 = n then some (g (l.getD i dF)) else none) = (get l n).map g := by
 have h : ∀ m : List Fd, m.findSome? (fun f => if f.1 = n then some (g f) else none) = (get m n).map g := by
  intro m
  induction m with
  | nil => rfl
  | cons f m ih =>
   simp only [List.findSome?_cons, get, List.find?_cons]
   by_cases q : f.1 = n
   ·simp [q]
   ·simp only [q, if_false, decide_false]
    exact ih
 conv => rhs; rw [← h l, ← range_map l dF]
 rw [List.findSome?_map]
 rfl
theorem mem_getD {l : List Fd} {i : Nat} (h : i < l.length) : l.getD i dF ∈ l := by
 rw [List.getD_eq_getElem?_getD, List.getElem?_eq_getElem h]
 exact List.getElem_mem _
def getR (l : List Fd) (n : ByteArray) : Fd × Bool := match get l n with
 | some f => (f, true)
 | none => (dF, false)
theorem getR_eq (l : List Fd) (n : ByteArray) : ((get l n).map fun f => (Sum.inr (f, true) : Unit ⊕ (Fd × Bool))).getD (.inl ()) = match get l n with
  | some f => .inr (f, true)
  | none => .inl () := by cases get l n <;> rfl
theorem ref_get (s : Sp) (n : ByteArray) (h : s.1.length ≤ 1000000) : ref07_Get K (s, n) = some (getR s.1 n) := by
 unfold ref07_Get
 try dsimp only
 have run : ∀ f : Int → Option (Int ⊕ (Unit ⊕ (Fd × Bool))), (∀ i : Nat, i < s.1.length → f (i : Int) = some (if (s.1.getD i dF).1 = n then .inr (.inr (s.1.getD i dF, true)) else .inl ((i + 1 : Nat) : Int))) → f (s.1.length : Int) = some (.inr (.inl ())) → P.iter K f 0 = some (match get s.1 n with
   | some f => .inr (f, true)
   | none => .inl ()) := by
  intro f hs he
  rw [iter_find0 (n := s.1.length) (e := .inl ()) (fun i => (if (s.1.getD i dF).1 = n then some (Sum.inr (s.1.getD i dF, true)) else none : Option (Unit ⊕ (Fd × Bool)))) K (fun i hi => by rw [hs i hi]; by_cases q : (s.1.getD i dF).1 = n <;> simp only [q, if_true, if_false]) he (by unfold K; omega), find_range s.1 n (fun f => (Sum.inr (f, true) : Unit ⊕ (Fd × Bool))), getR_eq]
 rw [run _ ?_ ?_]
 ·rw [bind_some]
  unfold getR
  cases get s.1 n with
  | some f => rfl
  | none => rfl
 ·intro i hi
  try dsimp only
  simp only [show P.ilt (i : Int) (P.len s.1) = true from ilt_iff.2 (by rw [len_eq]; omega), cond_true, show P.inb (i : Int) (P.len s.1) = true from inb_iff.2 (by rw [len_eq]; omega), get_nat, wrap_succ (show i + 1 < 9223372036854775808 by omega)]
  by_cases q : (s.1.getD i dF).1 = n
  ·rw [if_pos q, show P.seq (s.1.getD i dF).1 n = true from seq_iff.2 q]; rfl
  ·rw [if_neg q, show P.seq (s.1.getD i dF).1 n = false from by rw [Bool.eq_false_iff]; exact fun z => q (seq_iff.1 z)]; rfl
 ·try dsimp only
  rw [show P.ilt (s.1.length : Int) (P.len s.1) = false from by rw [Bool.eq_false_iff, Ne, ilt_iff, len_eq]; omega]; rfl
end Go.PL
end
section
open Go Go.PG Go.PL
set_option linter.unusedVariables false
namespace Go.PL
def MayO (s : Sp) : Prop := RisesF s.1 ∧ (∀ f, f ∈ s.1 → f.2.2 = norm f.2.2) ∧ s.2 = norm s.2
instance (s : Sp) : Decidable (MayO s) := by unfold MayO; exact inferInstance
def StepO (l : List Fd) (i : Nat) : Prop := (l.getD i dF).2.2 = norm (l.getD i dF).2.2 ∧ (0 < i → ltS (l.getD (i - 1) dF).1 (l.getD i dF).1)
instance (l : List Fd) (i : Nat) : Decidable (StepO l i) := by unfold StepO; exact inferInstance
theorem rises_of_steps {l : List Fd} (h : ∀ i, i < l.length → 0 < i → ltS (l.getD (i - 1) dF).1 (l.getD i dF).1) : RisesF l := by
 have key : ∀ d i, i + d + 1 < l.length → ltS (l.getD i dF).1 (l.getD (i + d + 1) dF).1 := by
  intro d
  induction d with
  | zero => intro i hi; have := h (i + 1) (by omega) (by omega); simpa using this
  | succ d ih =>
   intro i hi
   have h1 := ih i (by omega)
   have h2 := h (i + (d + 1) + 1) (by omega) (by omega)
   rw [show i + (d + 1) + 1 - 1 = i + d + 1 by omega] at h2
   exact ltS_trans h1 h2
 refine List.pairwise_iff_getElem.2 fun i j hi hj hij => ?_
 have := key (j - i - 1) i (by omega)
 rw [show i + (j - i - 1) + 1 = j by omega] at this
 simpa [List.getD_eq_getElem?_getD, hi, hj] using this
theorem steps_of_rises {l : List Fd} (h : RisesF l) (i : Nat) (hi : i < l.length) (h0 : 0 < i) : ltS (l.getD (i - 1) dF).1 (l.getD i dF).1 := by
 have := List.pairwise_iff_getElem.1 h (i - 1) i (by omega) hi (by omega)
 simpa [List.getD_eq_getElem?_getD, hi, show i - 1 < l.length by omega] using this
theorem steps_iff {l : List Fd} : (∀ i, i < l.length → StepO l i) ↔ RisesF l ∧ ∀ f, f ∈ l → f.2.2 = norm f.2.2 := by
 constructor
 ·intro h
  refine ⟨rises_of_steps fun i hi h0 => (h i hi).2 h0, fun f hf => ?_⟩
  obtain ⟨i, hi, rfl⟩ := List.getElem_of_mem hf
  have := (h i hi).1
  simpa [List.getD_eq_getElem?_getD, hi] using this
 ·intro h i hi
  exact ⟨h.2 _ (mem_getD hi), fun h0 => steps_of_rises h.1 i hi h0⟩
theorem ob_may (s : Sp) (h : FewS s) : object_May K s = some (decide (MayO s)) := by
 unfold object_May
 try dsimp only
 obtain ⟨h1, h2, h3⟩ := h
 rw [iter_all (n := s.1.length) (e := .inl ()) (r := .inr false) (fun i => StepO s.1 i) K ?_ ?_ (by unfold K; omega)]
 ·rw [bind_some]
  by_cases q : ∀ i, i < s.1.length → StepO s.1 i
  ·rw [if_pos q, either_inl, at_may _ (by omega), bind_some]
   congr 1
   rw [Bool.eq_iff_iff, decide_eq_true_eq, decide_eq_true_eq]
   have := steps_iff.1 q
   exact ⟨fun z => ⟨this.1, this.2, z⟩, fun z => z.2.2⟩
  ·rw [if_neg q, either_inr, decide_eq_false fun z => q (steps_iff.2 ⟨z.1, z.2.1⟩)]
 ·intro i hi
  try dsimp only
  rw [show P.ilt (i : Int) (P.len s.1) = true from ilt_iff.2 (by rw [len_eq]; omega), cond_true, show P.inb (i : Int) (P.len s.1) = true from inb_iff.2 (by rw [len_eq]; omega), cond_true, get_nat, at_may (s.1.getD i dF).2.2 (by have := h2 _ (mem_getD hi); omega), bind_some, wrap_succ (by omega)]
  by_cases q : (s.1.getD i dF).2.2 = norm (s.1.getD i dF).2.2
  ·rw [decide_eq_true q, show P.not true = false from rfl, cond_false]
   by_cases h0 : 0 < i
   ·rw [show P.ilt ((0 : Int)) (i : Int) = true from ilt_iff.2 (by omega), cond_true, wrap_pred h0 (by omega), show P.inb ((i - 1 : Nat) : Int) (P.len s.1) = true from inb_iff.2 (by rw [len_eq]; omega), cond_true, get_nat]
    by_cases z : ltS (s.1.getD (i - 1) dF).1 (s.1.getD i dF).1
    ·rw [show P.slt (s.1.getD (i - 1) dF).1 (s.1.getD i dF).1 = true from slt_iff.2 z, if_pos (show StepO s.1 i from ⟨q, fun _ => z⟩)]; rfl
    ·rw [show P.slt (s.1.getD (i - 1) dF).1 (s.1.getD i dF).1 = false from by rw [Bool.eq_false_iff]; exact fun y => z (slt_iff.1 y), if_neg (show ¬ StepO s.1 i from fun y => z (y.2 h0))]; rfl
   ·rw [show P.ilt ((0 : Int)) (i : Int) = false from by rw [Bool.eq_false_iff, Ne, ilt_iff]; omega, cond_false, if_pos (show StepO s.1 i from ⟨q, fun z => absurd z h0⟩)]
  ·rw [decide_eq_false q, show P.not false = true from rfl, cond_true, if_neg (show ¬ StepO s.1 i from fun z => q z.1)]
 ·try dsimp only
  rw [show P.ilt (s.1.length : Int) (P.len s.1) = false from by rw [Bool.eq_false_iff, Ne, ilt_iff, len_eq]; omega]; rfl
theorem ref_may7 (s : Sp) (h : FewS s) : ref07_May K s = some (decide (MayO s)) := by
 unfold ref07_May
 try dsimp only
 obtain ⟨h1, h2, h3⟩ := h
 rw [iter_all (n := s.1.length) (e := .inl ()) (r := .inr false) (fun i => StepO s.1 i) K ?_ ?_ (by unfold K; omega)]
 ·rw [bind_some]
  by_cases q : ∀ i, i < s.1.length → StepO s.1 i
  ·rw [if_pos q, either_inl, ref_may _ (by omega), bind_some]
   congr 1
   rw [Bool.eq_iff_iff, decide_eq_true_eq, decide_eq_true_eq]
   have := steps_iff.1 q
   exact ⟨fun z => ⟨this.1, this.2, z⟩, fun z => z.2.2⟩
  ·rw [if_neg q, either_inr, decide_eq_false fun z => q (steps_iff.2 ⟨z.1, z.2.1⟩)]
 ·intro i hi
  try dsimp only
  rw [show P.ilt (i : Int) (P.len s.1) = true from ilt_iff.2 (by rw [len_eq]; omega), cond_true, show P.inb (i : Int) (P.len s.1) = true from inb_iff.2 (by rw [len_eq]; omega), cond_true, get_nat, ref_may (s.1.getD i dF).2.2 (by have := h2 _ (mem_getD hi); omega), bind_some, wrap_succ (by omega)]
  by_cases q : (s.1.getD i dF).2.2 = norm (s.1.getD i dF).2.2
  ·rw [decide_eq_true q, show P.not true = false from rfl, cond_false]
   by_cases h0 : 0 < i
   ·rw [show P.ilt ((0 : Int)) (i : Int) = true from ilt_iff.2 (by omega), cond_true, wrap_pred h0 (by omega), show P.inb ((i - 1 : Nat) : Int) (P.len s.1) = true from inb_iff.2 (by rw [len_eq]; omega), cond_true, cond_true, get_nat]
    by_cases z : ltS (s.1.getD (i - 1) dF).1 (s.1.getD i dF).1
    ·rw [show P.slt (s.1.getD (i - 1) dF).1 (s.1.getD i dF).1 = true from slt_iff.2 z, if_pos (show StepO s.1 i from ⟨q, fun _ => z⟩)]; rfl
    ·rw [show P.slt (s.1.getD (i - 1) dF).1 (s.1.getD i dF).1 = false from by rw [Bool.eq_false_iff]; exact fun y => z (slt_iff.1 y), if_neg (show ¬ StepO s.1 i from fun y => z (y.2 h0))]; rfl
   ·rw [show P.ilt ((0 : Int)) (i : Int) = false from by rw [Bool.eq_false_iff, Ne, ilt_iff]; omega, cond_false, if_pos (show StepO s.1 i from ⟨q, fun z => absurd z h0⟩)]
  ·rw [decide_eq_false q, show P.not false = true from rfl, cond_true, if_neg (show ¬ StepO s.1 i from fun z => q z.1)]
 ·try dsimp only
  rw [show P.ilt (s.1.length : Int) (P.len s.1) = false from by rw [Bool.eq_false_iff, Ne, ilt_iff, len_eq]; omega]; rfl
end Go.PL
end
section
open Go Go.PG Go.PL
set_option linter.unusedVariables false
namespace Go.PL
theorem take_getF {l : List Fd} {j : Nat} (h : j < l.length) : l.take (j + 1) = l.take j ++ [l.getD j dF] := by
 rw [List.take_add_one, List.getElem?_eq_getElem h]
 simp [List.getD_eq_getElem?_getD, h]
theorem copy_run {ρ : Type} (l : List Fd) (p : List At) (hl : l.length ≤ 1000000) (f : Int × List Fd × List At → Option ((Int × List Fd × List At) ⊕ ((List Fd × List At) ⊕ ρ)))
  (hs : ∀ i : Nat, i < l.length → f ((i : Int), l.take i, p) = some (.inl (((i + 1 : Nat) : Int), l.take i ++ [l.getD i dF], p))) (he : f ((l.length : Int), l, p) = some (.inr (.inl (l, p)))) : P.iter K f (0, [], p) = some (.inl (l, p)) := by
 refine iter_run (fun i => ((i : Int), l.take i, p)) _ l.length 0 K (by unfold K; omega) (fun j hj => ?_) (by simpa using he)
 have := hs j hj
 simp only [Nat.zero_add]
 rw [this, take_getF hj]
theorem room48 (l : List Fd) (x : Fd) (h : l.length ≤ 4000000) : P.room (P.add (P.len l) (P.len [x])) 48 = true := by
 rw [len_eq, len_eq, room_nat]; simp; omega
theorem put_run (l : List Fd) (p : List At) (F : Fd) (h : RisesF l) (hl : l.length ≤ 1000000) :
  P.cond (get l F.1).isSome (P.cond (P.inb (pos l F.1 : Int) (P.len l)) (some (P.set l (pos l F.1 : Int) F, p)) none) (P.cond (P.ilt ((0 : Int)) (P.len [F])) (P.cond (P.cut ((0 : Int)) (pos l F.1 : Int) (P.len l)) (P.cond (P.room (P.add (P.len l) (P.len [F])) 48) (some (P.insAt l (pos l F.1 : Int) [F], p)) none) none) none) = some (put l F, p) := by
 rw [put_eq h]
 have hp := pos_le F.1 l
 cases q : (get l F.1).isSome
 ·rw [cond_false, show P.ilt ((0 : Int)) (P.len [F]) = true from ilt_iff.2 (by rw [len_eq]; simp), cond_true, show P.cut ((0 : Int)) (pos l F.1 : Int) (P.len l) = true from cut_iff.2 (by rw [len_eq]; omega), cond_true, room48 _ _ (by omega), cond_true, if_neg (by decide)]
  rfl
 ·rw [at_pos h, Bool.and_eq_true, decide_eq_true_eq] at q
  rw [cond_true, show P.inb (pos l F.1 : Int) (P.len l) = true from inb_iff.2 (by rw [len_eq]; omega), cond_true, if_pos rfl]
  rfl
end Go.PL
namespace Go.PL
theorem getR_few {s : Sp} (h : FewS s) (n : ByteArray) : (getR s.1 n).1.2.2.length ≤ 100000 := by
 unfold getR
 cases q : get s.1 n with
 | none => simp
 | some f => exact h.2.1 f (get_mem q)
theorem copy_step (l : List Fd) (hl : l.length ≤ 1000000) (hv : ∀ f, f ∈ l → f.2.2.length ≤ 100000) (p : List At) {ρ : Type} (i : Nat) (hi : i < l.length) :
  (P.cond (P.ilt (i : Int) (P.len l)) (P.cond (P.inb (i : Int) (P.len l)) (P.bind (slCloneAtom K (P.get l (i : Int) ((ByteArray.mk #[]), false, [])).snd.snd) fun (r : List (Int × Int)) => P.cond (P.room (P.add (P.len (l.take i)) (P.len [((P.get l (i : Int) ((ByteArray.mk #[]), false, [])).fst, (P.get l (i : Int) ((ByteArray.mk #[]), false, [])).snd.fst, r)])) 48) (some (Sum.inl (P.wrap IntKind.i64 (P.add (i : Int) ((1 : Int))), P.app (l.take i) [((P.get l (i : Int) ((ByteArray.mk #[]), false, [])).fst, (P.get l (i : Int) ((ByteArray.mk #[]), false, [])).snd.fst, r)], p))) none) none) (some (Sum.inr (Sum.inl (l.take i, p)))) : Option ((Int × List Fd × List At) ⊕ ((List Fd × List At) ⊕ ρ))) = some (.inl (((i + 1 : Nat) : Int), l.take i ++ [l.getD i dF], p)) := by
 rw [show P.ilt (i : Int) (P.len l) = true from ilt_iff.2 (by rw [len_eq]; omega), cond_true, show P.inb (i : Int) (P.len l) = true from inb_iff.2 (by rw [len_eq]; omega), cond_true, get_nat, at_clone K (l.getD i dF).2.2 (by have := hv _ (mem_getD hi); omega), bind_some, room48 _ _ (by rw [List.length_take]; omega), cond_true, wrap_succ (by omega)]
 rfl
theorem copy_end {α : Type} (l : List Fd) (A : Option α) (B : Option α) : P.cond (P.ilt (l.length : Int) (P.len l)) A B = B := by
 rw [show P.ilt (l.length : Int) (P.len l) = false from by rw [Bool.eq_false_iff, Ne, ilt_iff, len_eq]; omega]; rfl
end Go.PL
end
section
open Go Go.PG Go.PL
set_option linter.unusedVariables false
namespace Go.PL
def stepF (F : Fd) (s : Bool × List Fd) (y : Fd) : Bool × List Fd :=
 if s.1 = false ∧ (ltS F.1 y.1 ∨ F.1 = y.1) then (true, if y.1 = F.1 then s.2 ++ [F] else s.2 ++ [F] ++ [y]) else (s.1, if y.1 = F.1 then s.2 else s.2 ++ [y])
def finF (F : Fd) (s : Bool × List Fd) : List Fd := if s.1 = true then s.2 else s.2 ++ [F]
def layF (F : Fd) (l : List Fd) (i : Nat) : Bool × List Fd := (l.take i).foldl (stepF F) (false, [])
theorem layF_succ {F : Fd} {l : List Fd} {i : Nat} (h : i < l.length) : layF F l (i + 1) = stepF F (layF F l i) (l.getD i dF) := by
 unfold layF
 rw [take_getF h, List.foldl_append]
 rfl
theorem layF_len (F : Fd) (l : List Fd) : ∀ i, i ≤ l.length → (layF F l i).2.length ≤ i + 1 ∧ ((layF F l i).1 = false → (layF F l i).2.length ≤ i)
 | 0, _ => by simp [layF]
 | i + 1, h => by
  obtain ⟨h1, h2⟩ := layF_len F l i (by omega)
  rw [layF_succ (by omega)]
  unfold stepF
  by_cases q : (layF F l i).1 = false ∧ (ltS F.1 (l.getD i dF).1 ∨ F.1 = (l.getD i dF).1)
  ·rw [if_pos q]
   have := h2 q.1
   refine ⟨?_, fun z => by cases z⟩
   by_cases e : (l.getD i dF).1 = F.1
   ·rw [if_pos e]; simp; omega
   ·rw [if_neg e]; simp; omega
  ·rw [if_neg q]
   by_cases e : (l.getD i dF).1 = F.1
   ·rw [if_pos e]
    exact ⟨by show (layF F l i).2.length ≤ _; omega, fun z => by have := h2 z; show (layF F l i).2.length ≤ _; omega⟩
   ·rw [if_neg e]
    refine ⟨by simp; omega, fun z => ?_⟩
    have := h2 z
    simp; omega
theorem stepF_true (F : Fd) : ∀ (l acc : List Fd), (∀ y, y ∈ l → y.1 ≠ F.1) → l.foldl (stepF F) (true, acc) = (true, acc ++ l)
 | [], acc, _ => by simp
 | y :: l, acc, h => by
  rw [List.foldl_cons, show stepF F (true, acc) y = (true, acc ++ [y]) from by simp [stepF, h y (by simp)], stepF_true F l _ fun z hz => h z (List.mem_cons_of_mem _ hz)]
  simp
theorem stepF_false (F : Fd) : ∀ (l acc : List Fd), RisesF l → finF F (l.foldl (stepF F) (false, acc)) = acc ++ put l F
 | [], acc, _ => by simp [put, finF]
 | y :: l, acc, h => by
  obtain ⟨h1, h2⟩ := List.pairwise_cons.1 h
  rw [List.foldl_cons]
  unfold put
  by_cases q : ltS F.1 y.1
  ·have hne : ∀ z, z ∈ y :: l → z.1 ≠ F.1 := fun z hz e => by
    rcases List.mem_cons.1 hz with rfl | hz
    ·rw [e] at q; exact ltS_irrefl _ q
    ·have := ltS_trans q (h1 z hz); rw [e] at this; exact ltS_irrefl _ this
   rw [show stepF F (false, acc) y = (true, acc ++ [F] ++ [y]) from by simp [stepF, q, hne y (by simp)], stepF_true F l _ fun z hz => hne z (List.mem_cons_of_mem _ hz), if_pos q]
   simp [finF]
  ·rw [if_neg q]
   by_cases e : F.1 = y.1
   ·have hne : ∀ z, z ∈ l → z.1 ≠ F.1 := fun z hz e' => by
     have := h1 z hz; rw [e', e] at this; exact ltS_irrefl _ this
    rw [show stepF F (false, acc) y = (true, acc ++ [F]) from by simp [stepF, e], stepF_true F l _ hne, if_pos e]
    simp [finF]
   ·rw [show stepF F (false, acc) y = (false, acc ++ [y]) from by simp [stepF, q, e, Ne.symm e], stepF_false F l _ h2, if_neg e]
    simp
theorem layF_all {F : Fd} {l : List Fd} (h : RisesF l) : finF F (layF F l l.length) = put l F := by
 have := stepF_false F l [] h
 unfold layF
 rw [List.take_length]
 simpa using this
theorem ref_with (s : Sp) (F : Fd) (h : RisesF s.1) (hl : s.1.length ≤ 1000000) : ref07_With K (s, F) = some (put s.1 F, s.2) := by
 unfold ref07_With
 try dsimp only
 have run : ∀ f : Bool × Int × List Fd × List At → Option ((Bool × Int × List Fd × List At) ⊕ ((Bool × List Fd × List At) ⊕ Sp)),
   (∀ i : Nat, i < s.1.length → f ((layF F s.1 i).1, (i : Int), (layF F s.1 i).2, s.2) = some (.inl ((layF F s.1 (i + 1)).1, ((i + 1 : Nat) : Int), (layF F s.1 (i + 1)).2, s.2))) →
   f ((layF F s.1 s.1.length).1, (s.1.length : Int), (layF F s.1 s.1.length).2, s.2) = some (.inr (.inl ((layF F s.1 s.1.length).1, (layF F s.1 s.1.length).2, s.2))) →
   P.iter K f (false, (0 : Int), [], s.2) = some (.inl ((layF F s.1 s.1.length).1, (layF F s.1 s.1.length).2, s.2)) := by
  intro f hs he
  exact iter_run (fun i => ((layF F s.1 i).1, (i : Int), (layF F s.1 i).2, s.2)) _ s.1.length 0 K (by unfold K; omega) (fun j hj => by simpa using hs j hj) (by simpa using he)
 rw [run _ ?_ ?_]
 ·rw [bind_some, either_inl, ← layF_all h]
  unfold finF
  cases hb : (layF F s.1 s.1.length).1
  ·try dsimp only
   rw [show P.not false = true from rfl, cond_true, room48 _ _ (by have := (layF_len F s.1 s.1.length (Nat.le_refl _)).1; omega), cond_true, if_neg (by decide)]; rfl
  ·rw [show P.not true = false from rfl, cond_false, if_pos rfl]
 ·intro i hi
  try dsimp only
  have hr := (layF_len F s.1 i (by omega)).1
  have r1 : P.room (P.add (P.len (layF F s.1 i).2) (P.len [F])) 48 = true := room48 _ _ (by omega)
  have r2 : P.room (P.add (P.len (layF F s.1 i).2) (P.len [s.1.getD i dF])) 48 = true := room48 _ _ (by omega)
  have r3 : P.room (P.add (P.len (P.app (layF F s.1 i).2 [F])) (P.len [s.1.getD i dF])) 48 = true := room48 _ _ (by simp [P.app]; omega)
  simp only [show P.ilt (i : Int) (P.len s.1) = true from ilt_iff.2 (by rw [len_eq]; omega), show P.inb (i : Int) (P.len s.1) = true from inb_iff.2 (by rw [len_eq]; omega), cond_true, get_nat, wrap_succ (show i + 1 < 9223372036854775808 by omega), r1, r2, r3]
  rw [layF_succ hi]
  unfold stepF
  simp only [cond_eq, not_iff, sle_iff, seq_iff]
  generalize hb : (layF F s.1 i).1 = b
  generalize hg : s.1.getD i dF = g
  generalize hA : (layF F s.1 i).2 = A
  cases b
  ·by_cases q : ltS F.1 g.1 ∨ F.1 = g.1
   ·by_cases e : g.1 = F.1
    ·simp [q, e, P.app]
    ·simp [q, e, P.app]
   ·by_cases e : g.1 = F.1
    ·exact absurd (.inr e.symm) q
    ·simp [q, e, P.app]
  ·by_cases e : g.1 = F.1
   ·simp [e]
   ·simp [e, P.app]
 ·try dsimp only
  rw [show P.ilt (s.1.length : Int) (P.len s.1) = false from by rw [Bool.eq_false_iff, Ne, ilt_iff, len_eq]; omega]; rfl
end Go.PL
end
section
open Go Go.PG Go.PL
set_option linter.unusedVariables false
namespace Go.PL
def renF (s : Int) (f : Fd) : Fd := (f.1, f.2.1, norm (f.2.2.map (renA s)))
def rename (o : Sp) (s : Int) : Sp := if MayO o then (o.1.map (renF s), norm (o.2.map (renA s))) else ([], [])
theorem drop_getF {l : List Fd} {j : Nat} (h : j < l.length) : l.drop j = l.getD j dF :: l.drop (j + 1) := by
 rw [List.drop_eq_getElem_cons h]
 simp [List.getD_eq_getElem?_getD, h]
theorem eq_iff_getF {a b : List Fd} (h : a.length = b.length) : (∀ i, i < a.length → a.getD i dF = b.getD i dF) ↔ a = b := by
 constructor
 ·intro q
  refine List.ext_getElem h fun i h1 h2 => ?_
  have := q i h1
  simpa [List.getD_eq_getElem?_getD, h1, h2] using this
 ·rintro rfl i _; rfl
theorem ref_same7 (a b : Sp) (h : FewS a) : ref07_Same K (a, b) = some (decide (a = b)) := by
 obtain ⟨l, p⟩ := a; obtain ⟨m, q⟩ := b
 obtain ⟨h1, h2, h3⟩ := h
 simp only at h1 h2 h3
 unfold ref07_Same
 try dsimp only
 by_cases hl : l.length = m.length
 ·rw [show P.ieq (P.len l) (P.len m) = true from ieq_iff.2 (by simp [len_eq, hl]), show P.not true = false from rfl, cond_false, ref_same p q (by omega), bind_some]
  by_cases hp : p = q
  ·rw [decide_eq_true hp, show P.not true = false from rfl, cond_false]
   rw [iter_all (n := l.length) (e := .inl ()) (r := .inr false) (fun i => l.getD i dF = m.getD i dF) K ?_ ?_ (by unfold K; omega)]
   ·rw [bind_some]
    by_cases z : ∀ i, i < l.length → l.getD i dF = m.getD i dF
    ·rw [if_pos z, either_inl, decide_eq_true]
     rw [(eq_iff_getF hl).1 z, hp]
    ·rw [if_neg z, either_inr, decide_eq_false]
     intro y
     exact z ((eq_iff_getF hl).2 (congrArg Prod.fst y))
   ·intro i hi
    try dsimp only
    rw [show P.ilt (i : Int) (P.len l) = true from ilt_iff.2 (by rw [len_eq]; omega), cond_true, show P.inb (i : Int) (P.len l) = true from inb_iff.2 (by rw [len_eq]; omega), cond_true, show P.inb (i : Int) (P.len m) = true from inb_iff.2 (by rw [len_eq]; omega), cond_true, get_nat, get_nat, ref_same (l.getD i dF).2.2 (m.getD i dF).2.2 (by have := h2 _ (mem_getD hi); omega), bind_some, wrap_succ (by omega)]
    generalize l.getD i dF = f
    generalize m.getD i dF = g
    obtain ⟨f1, f2, f3⟩ := f; obtain ⟨g1, g2, g3⟩ := g
    simp only [cond_eq, not_iff, seq_iff, beq_iff, decide_eq_true_eq, Prod.mk.injEq]
    by_cases e1 : f1 = g1
    ·by_cases e2 : f2 = g2
     ·by_cases e3 : f3 = g3
      ·simp [e1, e2, e3]
      ·simp [e1, e2, e3]
     ·simp [e1, e2]
    ·simp [e1]
   ·try dsimp only
    rw [show P.ilt (l.length : Int) (P.len l) = false from by rw [Bool.eq_false_iff, Ne, ilt_iff, len_eq]; omega]; rfl
  ·rw [decide_eq_false hp, show P.not false = true from rfl, cond_true, decide_eq_false]
   intro y; exact hp (congrArg Prod.snd y)
 ·rw [show P.ieq (P.len l) (P.len m) = false from by rw [Bool.eq_false_iff, Ne, ieq_iff, len_eq, len_eq]; omega, show P.not false = true from rfl, cond_true, decide_eq_false]
  intro y
  exact hl (congrArg (fun z : Sp => z.1.length) y)
end Go.PL
end
section
open Go Go.PG Go.PL
set_option linter.unusedVariables false
namespace Go.PL
def FldIn (b : List Fd) (f : Fd) : Prop := (getR b f.1).2 = true ∧ Within f.2.2 (getR b f.1).1.2.2 ∧ ((getR b f.1).1.2.1 = true → f.2.1 = true)
instance (b : List Fd) (f : Fd) : Decidable (FldIn b f) := by unfold FldIn; exact inferInstance
def SureIn (a : List Fd) (g : Fd) : Prop := g.2.1 = true → (getR a g.1).2 = true
instance (a : List Fd) (g : Fd) : Decidable (SureIn a g) := by unfold SureIn; exact inferInstance
def WithinO (a b : Sp) : Prop := MayO a ∧ MayO b ∧ Within a.2 b.2 ∧ (∀ f, f ∈ a.1 → FldIn b.1 f) ∧ ∀ g, g ∈ b.1 → SureIn a.1 g
instance (a b : Sp) : Decidable (WithinO a b) := by unfold WithinO; exact inferInstance
theorem all_getD {l : List Fd} {p : Fd → Prop} : (∀ i, i < l.length → p (l.getD i dF)) ↔ ∀ f, f ∈ l → p f := by
 constructor
 ·intro h f hf
  obtain ⟨i, hi, rfl⟩ := List.getElem_of_mem hf
  have := h i hi
  simpa [List.getD_eq_getElem?_getD, hi] using this
 ·intro h i hi; exact h _ (mem_getD hi)
theorem getR_snd (l : List Fd) (n : ByteArray) : (getR l n).2 = (get l n).isSome := by unfold getR; cases get l n <;> rfl
theorem getR_pos {l : List Fd} {n : ByteArray} (h : RisesF l) (hs : (get l n).isSome = true) : (getR l n).1 = l.getD (pos l n) dF := by
 unfold getR; rw [get_at_pos h hs]
theorem ref_within7 (a b : Sp) (ha : FewS a) (hb : FewS b) : ref07_Within K (a, b) = some (decide (WithinO a b)) := by
 unfold ref07_Within
 try dsimp only
 have hal := ha.1; have hbl := hb.1
 rw [ref_may7 a ha, bind_some]
 by_cases m1 : MayO a
 ·rw [decide_eq_true m1, show P.not true = false from rfl, cond_false, ref_may7 b hb, bind_some]
  by_cases m2 : MayO b
  ·rw [decide_eq_true m2, show P.not true = false from rfl, cond_false, ref_within a.2 b.2 (by have := ha.2.2; omega) (by have := hb.2.2; omega), bind_some]
   by_cases m3 : Within a.2 b.2
   ·rw [decide_eq_true m3, show P.not true = false from rfl, cond_false]
    rw [iter_all (n := a.1.length) (e := .inl ()) (r := .inr false) (fun i => FldIn b.1 (a.1.getD i dF)) K ?_ ?_ (by unfold K; omega)]
    ·rw [bind_some]
     by_cases q1 : ∀ i, i < a.1.length → FldIn b.1 (a.1.getD i dF)
     ·rw [if_pos q1, either_inl]
      rw [iter_all (n := b.1.length) (e := .inl ()) (r := .inr false) (fun i => SureIn a.1 (b.1.getD i dF)) K ?_ ?_ (by unfold K; omega)]
      ·rw [bind_some]
       by_cases q2 : ∀ i, i < b.1.length → SureIn a.1 (b.1.getD i dF)
       ·rw [if_pos q2, either_inl, decide_eq_true ⟨m1, m2, m3, all_getD.1 q1, all_getD.1 q2⟩]
       ·rw [if_neg q2, either_inr, decide_eq_false fun z => q2 (all_getD.2 z.2.2.2.2)]
      ·intro i hi
       try dsimp only
       simp only [show P.ilt (i : Int) (P.len b.1) = true from ilt_iff.2 (by rw [len_eq]; omega), cond_true, show P.inb (i : Int) (P.len b.1) = true from inb_iff.2 (by rw [len_eq]; omega), get_nat, wrap_succ (show i + 1 < 9223372036854775808 by omega)]
       rw [ref_get a _ (by omega), bind_some]
       generalize hg : b.1.getD i dF = g
       simp only [cond_eq, not_iff]
       by_cases s1 : g.2.1 = true
       ·by_cases s2 : (getR a.1 g.1).2 = true
        ·rw [if_pos (show SureIn a.1 g from fun _ => s2)]; simp [s1, s2]
        ·rw [if_neg (show ¬ SureIn a.1 g from fun z => s2 (z s1))]; simp [s1, s2]
       ·rw [if_pos (show SureIn a.1 g from fun z => absurd z s1)]; simp [s1]
      ·try dsimp only
       exact copy_end _ _ _
     ·rw [if_neg q1, either_inr, decide_eq_false fun z => q1 (all_getD.2 z.2.2.2.1)]
    ·intro i hi
     try dsimp only
     simp only [show P.ilt (i : Int) (P.len a.1) = true from ilt_iff.2 (by rw [len_eq]; omega), cond_true, show P.inb (i : Int) (P.len a.1) = true from inb_iff.2 (by rw [len_eq]; omega), get_nat, wrap_succ (show i + 1 < 9223372036854775808 by omega)]
     rw [ref_get b _ (by omega), bind_some]
     have hv := ha.2.1 _ (mem_getD hi)
     generalize hg : a.1.getD i dF = f at hv
     have hw := getR_few hb f.1
     rw [ref_within f.2.2 (getR b.1 f.1).1.2.2 (by omega) (by omega), bind_some]
     simp only [cond_eq, not_iff, decide_eq_true_eq]
     by_cases s1 : (getR b.1 f.1).2 = true
     ·by_cases s2 : Within f.2.2 (getR b.1 f.1).1.2.2
      ·by_cases s3 : (getR b.1 f.1).1.2.1 = true
       ·by_cases s4 : f.2.1 = true
        ·rw [if_pos (show FldIn b.1 f from ⟨s1, s2, fun _ => s4⟩)]; simp [s1, s2, s3, s4]
        ·rw [if_neg (show ¬ FldIn b.1 f from fun z => s4 (z.2.2 s3))]; simp [s1, s2, s3, s4]
       ·rw [if_pos (show FldIn b.1 f from ⟨s1, s2, fun z => absurd z s3⟩)]; simp [s1, s2, s3]
      ·rw [if_neg (show ¬ FldIn b.1 f from fun z => s2 z.2.1)]; simp [s1, s2]
     ·rw [if_neg (show ¬ FldIn b.1 f from fun z => s1 z.1)]; simp [s1]
    ·try dsimp only
     exact copy_end _ _ _
   ·rw [decide_eq_false m3, show P.not false = true from rfl, cond_true, decide_eq_false fun z => m3 z.2.2.1]
  ·rw [decide_eq_false m2, show P.not false = true from rfl, cond_true, decide_eq_false fun z => m2 z.2.1]
 ·rw [decide_eq_false m1, show P.not false = true from rfl, cond_true, decide_eq_false fun z => m1 z.1]
end Go.PL
end
section
open Go Go.PG Go.PL
set_option linter.unusedVariables false
namespace Go.PL
theorem ob_within (a b : Sp) (ha : FewS a) (hb : FewS b) : object_Within K (a, b) = some (decide (WithinO a b)) := by
 unfold object_Within
 try dsimp only
 have hal := ha.1; have hbl := hb.1
 rw [ob_may a ha, bind_some]
 by_cases m1 : MayO a
 ·rw [decide_eq_true m1, show P.not true = false from rfl, cond_false, ob_may b hb, bind_some]
  by_cases m2 : MayO b
  ·rw [decide_eq_true m2, show P.not true = false from rfl, cond_false, at_within a.2 b.2 (by have := ha.2.2; omega) (by have := hb.2.2; omega), bind_some]
   by_cases m3 : Within a.2 b.2
   ·rw [decide_eq_true m3, show P.not true = false from rfl, cond_false]
    rw [iter_all (n := a.1.length) (e := .inl ()) (r := .inr false) (fun i => FldIn b.1 (a.1.getD i dF)) K ?_ ?_ (by unfold K; omega)]
    ·rw [bind_some]
     by_cases q1 : ∀ i, i < a.1.length → FldIn b.1 (a.1.getD i dF)
     ·rw [if_pos q1, either_inl]
      rw [iter_all (n := b.1.length) (e := .inl ()) (r := .inr false) (fun i => SureIn a.1 (b.1.getD i dF)) K ?_ ?_ (by unfold K; omega)]
      ·rw [bind_some]
       by_cases q2 : ∀ i, i < b.1.length → SureIn a.1 (b.1.getD i dF)
       ·rw [if_pos q2, either_inl, decide_eq_true ⟨m1, m2, m3, all_getD.1 q1, all_getD.1 q2⟩]; rfl
       ·rw [if_neg q2, either_inr, decide_eq_false fun z => q2 (all_getD.2 z.2.2.2.2)]
      ·intro i hi
       try dsimp only
       simp only [show P.ilt (i : Int) (P.len b.1) = true from ilt_iff.2 (by rw [len_eq]; omega), cond_true, show P.inb (i : Int) (P.len b.1) = true from inb_iff.2 (by rw [len_eq]; omega), get_nat, wrap_succ (show i + 1 < 9223372036854775808 by omega), show P.ile ((0 : Int)) (i : Int) = true from ile_iff.2 (by omega), show P.not true = false from rfl]
       rw [find_spec a.1 _ m1.1 (by omega), bind_some]
       generalize hg : b.1.getD i dF = g
       simp only [cond_eq, not_iff, ← getR_snd]
       by_cases s1 : g.2.1 = true
       ·by_cases s2 : (getR a.1 g.1).2 = true
        ·rw [if_pos (show SureIn a.1 g from fun _ => s2)]; simp [s1, s2]
        ·rw [if_neg (show ¬ SureIn a.1 g from fun z => s2 (z s1))]; simp [s1, s2]
       ·rw [if_pos (show SureIn a.1 g from fun z => absurd z s1)]; simp [s1]
      ·try dsimp only
       exact copy_end _ _ _
     ·rw [if_neg q1, either_inr, decide_eq_false fun z => q1 (all_getD.2 z.2.2.2.1)]
    ·intro i hi
     try dsimp only
     simp only [show P.ilt (i : Int) (P.len a.1) = true from ilt_iff.2 (by rw [len_eq]; omega), cond_true, show P.inb (i : Int) (P.len a.1) = true from inb_iff.2 (by rw [len_eq]; omega), get_nat, wrap_succ (show i + 1 < 9223372036854775808 by omega)]
     rw [find_spec b.1 _ m2.1 (by omega), bind_some]
     have hv := ha.2.1 _ (mem_getD hi)
     generalize hg : a.1.getD i dF = f at hv
     have hw := getR_few hb f.1
     by_cases s1 : (getR b.1 f.1).2 = true
     ·have s1' : (get b.1 f.1).isSome = true := by rw [← getR_snd]; exact s1
      have hp := at_pos (n := f.1) m2.1
      rw [s1', eq_comm, Bool.and_eq_true, decide_eq_true_eq] at hp
      rw [s1', show P.not true = false from rfl, cond_false]
      simp only [show P.inb (pos b.1 f.1 : Int) (P.len b.1) = true from inb_iff.2 (by rw [len_eq]; omega), cond_true, get_nat]
      have e := getR_pos m2.1 s1'
      generalize hG : b.1.getD (pos b.1 f.1) dF = G at e
      rw [e] at hw
      rw [at_within f.2.2 G.2.2 (by omega) (by omega), bind_some]
      simp only [cond_eq, not_iff, decide_eq_true_eq]
      by_cases s2 : Within f.2.2 G.2.2
      ·by_cases s3 : G.2.1 = true
       ·by_cases s4 : f.2.1 = true
        ·rw [if_pos (show FldIn b.1 f from ⟨s1, by rw [e]; exact s2, fun _ => s4⟩)]; simp [s2, s3, s4]
        ·rw [if_neg (show ¬ FldIn b.1 f from fun z => s4 (z.2.2 (by rw [e]; exact s3)))]; simp [s2, s3, s4]
       ·rw [if_pos (show FldIn b.1 f from ⟨s1, by rw [e]; exact s2, fun z => absurd (by rw [e] at z; exact z) s3⟩)]; simp [s2, s3]
      ·rw [if_neg (show ¬ FldIn b.1 f from fun z => s2 (by have := z.2.1; rw [e] at this; exact this))]; simp [s2]
     ·rw [if_neg (show ¬ FldIn b.1 f from fun z => s1 z.1), ← getR_snd, Bool.eq_false_iff.2 s1]; rfl
    ·try dsimp only
     exact copy_end _ _ _
   ·rw [decide_eq_false m3, show P.not false = true from rfl, cond_true, decide_eq_false fun z => m3 z.2.2.1]
  ·rw [decide_eq_false m2, show P.not false = true from rfl, cond_true, decide_eq_false fun z => m2 z.2.1]
 ·rw [decide_eq_false m1, show P.not false = true from rfl, cond_true, decide_eq_false fun z => m1 z.1]
end Go.PL
end
section
open Go Go.PG Go.PL
set_option linter.unusedVariables false
namespace Go.PL
def SmallS (s : Sp) : Prop := (∀ f, f ∈ s.1 → f.2.2.length ≤ 60) ∧ s.1.length ≤ 60 ∧ s.2.length ≤ 60
instance (s : Sp) : Decidable (SmallS s) := by unfold SmallS; exact inferInstance
end Go.PL
end
section
open Go Go.PG Go.PL
set_option linter.unusedVariables false
namespace Go.PL
def joinF (a b : List Fd) (n : ByteArray) : Fd := (n, (getR a n).2 && (getR b n).2 && (getR a n).1.2.1 && (getR b n).1.2.1, norm ((getR a n).1.2.2 ++ (getR b n).1.2.2))
def foldJ (a b l acc : List Fd) : List Fd := l.foldl (fun out f => put out (joinF a b f.1)) acc
def has (l : List Fd) (n : ByteArray) : Bool := (get l n).isSome
theorem has_cons (f : Fd) (l : List Fd) (n : ByteArray) : has (f :: l) n = (decide (f.1 = n) || has l n) := by
 unfold has get
 rw [List.find?_cons]
 by_cases q : f.1 = n <;> simp [q]
theorem has_append (l m : List Fd) (n : ByteArray) : has (l ++ m) n = (has l n || has m n) := by
 induction l with
 | nil => simp [has, get]
 | cons f l ih => rw [List.cons_append, has_cons, has_cons, ih, Bool.or_assoc]
theorem foldJ_spec (a b : List Fd) : ∀ (l acc : List Fd), RisesF acc → RisesF (foldJ a b l acc) ∧ ∀ n, get (foldJ a b l acc) n = if has l n = true then some (joinF a b n) else get acc n := by
 intro l
 induction l with
 | nil => intro acc h; exact ⟨h, fun n => by simp [foldJ, has, get]⟩
 | cons f l ih =>
  intro acc h
  obtain ⟨h1, h2⟩ := ih (put acc (joinF a b f.1)) (put_rises h)
  refine ⟨h1, fun n => ?_⟩
  show get (foldJ a b l (put acc (joinF a b f.1))) n = _
  rw [h2, get_put h, has_cons]
  by_cases q : has l n = true
  ·rw [if_pos q, if_pos (by rw [q]; simp)]
  ·rw [if_neg q]
   by_cases e : f.1 = n
   ·rw [if_pos (show (joinF a b f.1).1 = n from e), if_pos (by simp [e]), e]
   ·rw [if_neg (show ¬ (joinF a b f.1).1 = n from e), if_neg (by simp [e, q])]
def joinL (a b : List Fd) : List Fd := foldJ a b (a ++ b) []
theorem joinL_rises (a b : List Fd) : RisesF (joinL a b) := (foldJ_spec a b _ [] List.Pairwise.nil).1
theorem get_joinL (a b : List Fd) (n : ByteArray) : get (joinL a b) n = if (has a n || has b n) = true then some (joinF a b n) else none := by
 unfold joinL
 rw [(foldJ_spec a b _ [] List.Pairwise.nil).2, has_append]
 rfl
def join (a b : Sp) : Sp := if MayO a ∧ MayO b then (joinL a.1 b.1, norm (a.2 ++ b.2)) else ([], [])
end Go.PL
end
section
open Go Go.PG Go.PL
set_option linter.unusedVariables false
namespace Go.PL
theorem foldJ_length (a b : List Fd) : ∀ (l acc : List Fd), (foldJ a b l acc).length ≤ acc.length + l.length := by
 have hput : ∀ (f : Fd) (l : List Fd), (put l f).length ≤ l.length + 1 := by
  intro f l
  induction l with
  | nil => simp [put]
  | cons g l ih =>
   unfold put
   split
   ·simp
   ·split
    ·simp
    ·simp; exact ih
 intro l
 induction l with
 | nil => intro acc; simp [foldJ]
 | cons f l ih =>
  intro acc
  have h1 := ih (put acc (joinF a b f.1))
  have h2 := hput (joinF a b f.1) acc
  show (foldJ a b l (put acc (joinF a b f.1))).length ≤ _
  simp only [List.length_cons]
  omega
theorem foldJ_take (a b l : List Fd) {i : Nat} (h : i < l.length) : foldJ a b (l.take (i + 1)) [] = put (foldJ a b (l.take i) []) (joinF a b (l.getD i dF).1) := by
 unfold foldJ
 rw [take_getF h, List.foldl_append]
 rfl
theorem inner_join (a b : Sp) (ha : FewS a) (hb : FewS b) (out : List Fd) (p : List At) (ho : RisesF out) (hl : out.length ≤ 900000) (nm : ByteArray) (i : Int) :
  (P.bind (ref07_Get K (a, nm)) fun (r : (ByteArray × Bool × List (Int × Int)) × Bool) => P.bind (ref07_Get K (b, nm)) fun (r_1 : (ByteArray × Bool × List (Int × Int)) × Bool) => P.cond r.snd (P.cond r_1.snd (P.cond r.fst.snd.fst (P.bind (ref06_Union K (r.fst.snd.snd, r_1.fst.snd.snd)) fun (r : List (Int × Int)) => P.bind (ref07_With K ((out, p), nm, r_1.fst.snd.fst, r)) fun (r : List (ByteArray × Bool × List (Int × Int)) × List (Int × Int)) => some (Sum.inl (i, r))) (P.bind (ref06_Union K (r.fst.snd.snd, r_1.fst.snd.snd)) fun (r : List (Int × Int)) => P.bind (ref07_With K ((out, p), nm, false, r)) fun (r : List (ByteArray × Bool × List (Int × Int)) × List (Int × Int)) => some (Sum.inl (i, r)))) (P.bind (ref06_Union K (r.fst.snd.snd, r_1.fst.snd.snd)) fun (r : List (Int × Int)) => P.bind (ref07_With K ((out, p), nm, false, r)) fun (r : List (ByteArray × Bool × List (Int × Int)) × List (Int × Int)) => some (Sum.inl (i, r)))) (P.bind (ref06_Union K (r.fst.snd.snd, r_1.fst.snd.snd)) fun (r : List (Int × Int)) => P.bind (ref07_With K ((out, p), nm, false, r)) fun (r : List (ByteArray × Bool × List (Int × Int)) × List (Int × Int)) => some (Sum.inl (i, r))) : Option ((Int × Sp) ⊕ (Sp ⊕ Sp))) = some (.inl (i, put out (joinF a.1 b.1 nm), p)) := by
 have w1 := getR_few ha nm
 have w2 := getR_few hb nm
 rw [ref_get a nm (by have := ha.1; omega), bind_some, ref_get b nm (by have := hb.1; omega), bind_some, ref_union _ _ (by omega), bind_some, bind_some]
 unfold joinF
 generalize getR a.1 nm = R at *
 generalize getR b.1 nm = R' at *
 rw [ref_with (out, p) _ ho (by simp; omega), ref_with (out, p) _ ho (by simp; omega)]
 cases R.2 <;> cases R'.2 <;> cases R.1.2.1 <;> rfl
end Go.PL
end
section
open Go Go.PG Go.PL
set_option linter.unusedVariables false
namespace Go.PL
theorem ref_join (a b : Sp) (ha : FewS a) (hb : FewS b) : ref07_Join K (a, b) = some (join a b) := by
 unfold ref07_Join join
 try dsimp only
 have hal := ha.1; have hbl := hb.1
 rw [ref_may7 a ha, bind_some]
 by_cases m1 : MayO a
 ·rw [decide_eq_true m1, show P.not true = false from rfl, cond_false, ref_may7 b hb, bind_some]
  by_cases m2 : MayO b
  ·rw [decide_eq_true m2, show P.not true = false from rfl, cond_false, if_pos ⟨m1, m2⟩, ref_union a.2 b.2 (by have := ha.2.2; have := hb.2.2; omega), bind_some]
   have hlen : (a.1 ++ b.1).length = a.1.length + b.1.length := by simp
   have run : ∀ f : Int × Sp → Option ((Int × Sp) ⊕ (Sp ⊕ Sp)),
     (∀ i : Nat, i < (a.1 ++ b.1).length → f ((i : Int), foldJ a.1 b.1 ((a.1 ++ b.1).take i) [], norm (a.2 ++ b.2)) = some (.inl (((i + 1 : Nat) : Int), put (foldJ a.1 b.1 ((a.1 ++ b.1).take i) []) (joinF a.1 b.1 ((a.1 ++ b.1).getD i dF).1), norm (a.2 ++ b.2)))) →
     f (((a.1 ++ b.1).length : Int), joinL a.1 b.1, norm (a.2 ++ b.2)) = some (.inr (.inl (joinL a.1 b.1, norm (a.2 ++ b.2)))) →
     P.iter K f (0, [], norm (a.2 ++ b.2)) = some (.inl (joinL a.1 b.1, norm (a.2 ++ b.2))) := by
    intro f hs he
    refine iter_run (f := f) (fun i => ((i : Int), foldJ a.1 b.1 ((a.1 ++ b.1).take i) [], norm (a.2 ++ b.2))) _ (a.1 ++ b.1).length 0 K (by unfold K; omega) (fun j hj => ?_) (by simp only [Nat.zero_add, List.take_length]; exact he)
    simp only [Nat.zero_add]
    rw [hs j hj, foldJ_take _ _ _ hj]
   rw [run _ ?_ ?_]
   ·rfl
   ·intro i hi
    try dsimp only
    have ho := (foldJ_spec a.1 b.1 ((a.1 ++ b.1).take i) [] List.Pairwise.nil).1
    have hol := foldJ_length a.1 b.1 ((a.1 ++ b.1).take i) []
    rw [List.length_take] at hol
    simp only [List.length_nil] at hol
    have e : P.wrap IntKind.i64 (P.add (P.len a.1) (P.len b.1)) = ((a.1.length + b.1.length : Nat) : Int) := by
     rw [show P.add (P.len a.1) (P.len b.1) = ((a.1.length + b.1.length : Nat) : Int) from by simp [P.add, P.len], wrap_nat (by omega)]
    rw [e, show P.ilt (i : Int) ((a.1.length + b.1.length : Nat) : Int) = true from ilt_iff.2 (by omega), cond_true, wrap_succ (by omega)]
    by_cases h1 : i < a.1.length
    ·rw [show P.ilt (i : Int) (P.len a.1) = true from ilt_iff.2 (by rw [len_eq]; omega), cond_true, show P.inb (i : Int) (P.len a.1) = true from inb_iff.2 (by rw [len_eq]; omega), cond_true, get_nat]
     rw [show (a.1 ++ b.1).getD i dF = a.1.getD i dF from by simp [List.getD_eq_getElem?_getD, List.getElem?_append_left h1]]
     exact inner_join a b ha hb _ _ ho (by omega) _ _
    ·have e2 : P.wrap IntKind.i64 (P.sub (i : Int) (P.len a.1)) = ((i - a.1.length : Nat) : Int) := by
      rw [show P.sub (i : Int) (P.len a.1) = ((i - a.1.length : Nat) : Int) from by simp only [P.sub, P.len]; omega, wrap_nat (by omega)]
     rw [show P.ilt (i : Int) (P.len a.1) = false from by rw [Bool.eq_false_iff, Ne, ilt_iff, len_eq]; omega, cond_false, e2, show P.inb ((i - a.1.length : Nat) : Int) (P.len b.1) = true from inb_iff.2 (by rw [len_eq]; omega), cond_true, get_nat]
     rw [show (a.1 ++ b.1).getD i dF = b.1.getD (i - a.1.length) dF from by simp [List.getD_eq_getElem?_getD, List.getElem?_append_right (Nat.not_lt.1 h1)]]
     exact inner_join a b ha hb _ _ ho (by omega) _ _
   ·try dsimp only
    have e : P.wrap IntKind.i64 (P.add (P.len a.1) (P.len b.1)) = (((a.1 ++ b.1).length : Nat) : Int) := by
     rw [show P.add (P.len a.1) (P.len b.1) = ((a.1.length + b.1.length : Nat) : Int) from by simp [P.add, P.len], wrap_nat (by omega), hlen]
    rw [e, show P.ilt (((a.1 ++ b.1).length : Nat) : Int) (((a.1 ++ b.1).length : Nat) : Int) = false from by rw [Bool.eq_false_iff, Ne, ilt_iff]; omega]
    rfl
  ·rw [decide_eq_false m2, show P.not false = true from rfl, cond_true, if_neg fun z => m2 z.2]
 ·rw [decide_eq_false m1, show P.not false = true from rfl, cond_true, if_neg fun z => m1 z.1]
end Go.PL
end
section
open Go Go.PG Go.PL
set_option linter.unusedVariables false
namespace Go.PL
theorem find_cont {ρ : Type} (l : List Fd) (n : ByteArray) (f : Int → Option (Int ⊕ (Unit ⊕ ρ))) (C : Nat → Option ρ) (A T : Option ρ) (hl : l.length ≤ 1000000)
  (hs : ∀ i : Nat, i < l.length → f (i : Int) = if (l.getD i dF).1 = n then P.map (fun r => Sum.inr (Sum.inr r)) (C i) else some (.inl ((i + 1 : Nat) : Int))) (he : f (l.length : Int) = some (.inr (.inl ())))
  (hC : ∀ i, i < l.length → (l.getD i dF).1 = n → C i = T) (hA : (∀ i, i < l.length → (l.getD i dF).1 ≠ n) → A = T) : P.bind (P.iter K f 0) (P.either (fun (z : Unit) => A) fun r => some r) = T := by
 have key : ∀ (d i k : Nat), i + d = l.length → d < k → (∀ j, j < i → (l.getD j dF).1 ≠ n) → P.bind (P.iter k f (i : Int)) (P.either (fun (z : Unit) => A) fun r => some r) = T := by
  intro d
  induction d with
  | zero =>
   intro i k hi hk hn
   obtain rfl : i = l.length := by omega
   rw [iter_done (by omega) he, bind_some, either_inl]
   exact hA hn
  | succ d ih =>
   intro i k hi hk hn
   have h := hs i (by omega)
   by_cases q : (l.getD i dF).1 = n
   ·rw [if_pos q, hC i (by omega) q] at h
    cases T with
    | none =>
     obtain ⟨m, rfl⟩ : ∃ m, k = m + 1 := ⟨k - 1, by omega⟩
     rw [iter_succ, h]
     rfl
    | some r => rw [iter_done (by omega) h, bind_some, either_inr]
   ·rw [if_neg q] at h
    rw [iter_step (by omega) h]
    exact ih (i + 1) (k - 1) (by omega) (by omega) (fun j hj => by
     by_cases e : j = i
     ·rw [e]; exact q
     ·exact hn j (by omega))
 exact key l.length 0 K (by omega) (by unfold K; omega) (fun j hj => by omega)
end Go.PL
end
section
open Go Go.PG Go.PL
set_option linter.unusedVariables false
namespace Go.PL
noncomputable def contJ (k : Nat) (bl out : List Fd) (p : List At) (i y_1 : Int) : Option ((Int × Sp) ⊕ (Sp ⊕ Sp)) := (P.cond (P.ilt y_1 ((0 : Int))) (P.bind (atoms_Union k ([], (P.get bl i ((ByteArray.mk #[]), false, [])).snd.snd)) fun (r : List (Int × Int)) => P.bind (object_find k (out, (P.get bl i ((ByteArray.mk #[]), false, [])).fst)) fun (r_1 : Int × Bool) => P.cond r_1.snd (P.cond (P.inb r_1.fst (P.len out)) (some (Sum.inl (P.wrap IntKind.i64 (P.add i ((1 : Int))), P.set out r_1.fst ((P.get bl i ((ByteArray.mk #[]), false, [])).fst, false, r), p))) none) (P.cond (P.ilt ((0 : Int)) (P.len [((P.get bl i ((ByteArray.mk #[]), false, [])).fst, false, r)])) (P.cond (P.cut ((0 : Int)) r_1.fst (P.len out)) (P.cond (P.room (P.add (P.len out) (P.len [((P.get bl i ((ByteArray.mk #[]), false, [])).fst, false, r)])) 48) (some (Sum.inl (P.wrap IntKind.i64 (P.add i ((1 : Int))), P.insAt out r_1.fst [((P.get bl i ((ByteArray.mk #[]), false, [])).fst, false, r)], p))) none) none) none)) (P.cond (P.inb y_1 (P.len out)) (P.bind (slCloneAtom k (P.get out y_1 ((ByteArray.mk #[]), false, [])).snd.snd) fun (r : List (Int × Int)) => P.cond (P.get out y_1 ((ByteArray.mk #[]), false, [])).snd.fst (P.bind (atoms_Union k (r, (P.get bl i ((ByteArray.mk #[]), false, [])).snd.snd)) fun (r : List (Int × Int)) => P.bind (object_find k (out, (P.get bl i ((ByteArray.mk #[]), false, [])).fst)) fun (r_1 : Int × Bool) => P.cond r_1.snd (P.cond (P.inb r_1.fst (P.len out)) (some (Sum.inl (P.wrap IntKind.i64 (P.add i ((1 : Int))), P.set out r_1.fst ((P.get bl i ((ByteArray.mk #[]), false, [])).fst, (P.get bl i ((ByteArray.mk #[]), false, [])).snd.fst, r), p))) none) (P.cond (P.ilt ((0 : Int)) (P.len [((P.get bl i ((ByteArray.mk #[]), false, [])).fst, (P.get bl i ((ByteArray.mk #[]), false, [])).snd.fst, r)])) (P.cond (P.cut ((0 : Int)) r_1.fst (P.len out)) (P.cond (P.room (P.add (P.len out) (P.len [((P.get bl i ((ByteArray.mk #[]), false, [])).fst, (P.get bl i ((ByteArray.mk #[]), false, [])).snd.fst, r)])) 48) (some (Sum.inl (P.wrap IntKind.i64 (P.add i ((1 : Int))), P.insAt out r_1.fst [((P.get bl i ((ByteArray.mk #[]), false, [])).fst, (P.get bl i ((ByteArray.mk #[]), false, [])).snd.fst, r)], p))) none) none) none)) (P.bind (atoms_Union k (r, (P.get bl i ((ByteArray.mk #[]), false, [])).snd.snd)) fun (r : List (Int × Int)) => P.bind (object_find k (out, (P.get bl i ((ByteArray.mk #[]), false, [])).fst)) fun (r_1 : Int × Bool) => P.cond r_1.snd (P.cond (P.inb r_1.fst (P.len out)) (some (Sum.inl (P.wrap IntKind.i64 (P.add i ((1 : Int))), P.set out r_1.fst ((P.get bl i ((ByteArray.mk #[]), false, [])).fst, false, r), p))) none) (P.cond (P.ilt ((0 : Int)) (P.len [((P.get bl i ((ByteArray.mk #[]), false, [])).fst, false, r)])) (P.cond (P.cut ((0 : Int)) r_1.fst (P.len out)) (P.cond (P.room (P.add (P.len out) (P.len [((P.get bl i ((ByteArray.mk #[]), false, [])).fst, false, r)])) 48) (some (Sum.inl (P.wrap IntKind.i64 (P.add i ((1 : Int))), P.insAt out r_1.fst [((P.get bl i ((ByteArray.mk #[]), false, [])).fst, false, r)], p))) none) none) none))) none))
noncomputable def innerJ (k : Nat) (bl out : List Fd) (p : List At) (i : Int) : Option ((Int × Sp) ⊕ (Sp ⊕ Sp)) := (P.bind (P.iter k (fun (y_1 : Int) => P.cond (P.ilt y_1 (P.len out)) (P.cond (P.inb y_1 (P.len out)) (P.cond (P.seq (P.get out y_1 ((ByteArray.mk #[]), false, [])).fst (P.get bl i ((ByteArray.mk #[]), false, [])).fst) (P.map (fun (r : Int × List (ByteArray × Bool × List (Int × Int)) × List (Int × Int) ⊕ List (ByteArray × Bool × List (Int × Int)) × List (Int × Int) ⊕ List (ByteArray × Bool × List (Int × Int)) × List (Int × Int)) => Sum.inr (Sum.inr r)) (contJ k bl out p i y_1)) (some (Sum.inl (P.wrap IntKind.i64 (P.add y_1 ((1 : Int))))))) none) (some (Sum.inr (Sum.inl PUnit.unit)))) ((0 : Int))) (P.either (fun (z : PUnit) => P.cond (P.ilt ((-1 : Int)) ((0 : Int))) (P.bind (atoms_Union k ([], (P.get bl i ((ByteArray.mk #[]), false, [])).snd.snd)) fun (r : List (Int × Int)) => P.bind (object_find k (out, (P.get bl i ((ByteArray.mk #[]), false, [])).fst)) fun (r_1 : Int × Bool) => P.cond r_1.snd (P.cond (P.inb r_1.fst (P.len out)) (some (Sum.inl (P.wrap IntKind.i64 (P.add i ((1 : Int))), P.set out r_1.fst ((P.get bl i ((ByteArray.mk #[]), false, [])).fst, false, r), p))) none) (P.cond (P.ilt ((0 : Int)) (P.len [((P.get bl i ((ByteArray.mk #[]), false, [])).fst, false, r)])) (P.cond (P.cut ((0 : Int)) r_1.fst (P.len out)) (P.cond (P.room (P.add (P.len out) (P.len [((P.get bl i ((ByteArray.mk #[]), false, [])).fst, false, r)])) 48) (some (Sum.inl (P.wrap IntKind.i64 (P.add i ((1 : Int))), P.insAt out r_1.fst [((P.get bl i ((ByteArray.mk #[]), false, [])).fst, false, r)], p))) none) none) none)) (P.cond (P.inb ((-1 : Int)) (P.len out)) (P.bind (slCloneAtom k (P.get out ((-1 : Int)) ((ByteArray.mk #[]), false, [])).snd.snd) fun (r : List (Int × Int)) => P.cond (P.get out ((-1 : Int)) ((ByteArray.mk #[]), false, [])).snd.fst (P.bind (atoms_Union k (r, (P.get bl i ((ByteArray.mk #[]), false, [])).snd.snd)) fun (r : List (Int × Int)) => P.bind (object_find k (out, (P.get bl i ((ByteArray.mk #[]), false, [])).fst)) fun (r_1 : Int × Bool) => P.cond r_1.snd (P.cond (P.inb r_1.fst (P.len out)) (some (Sum.inl (P.wrap IntKind.i64 (P.add i ((1 : Int))), P.set out r_1.fst ((P.get bl i ((ByteArray.mk #[]), false, [])).fst, (P.get bl i ((ByteArray.mk #[]), false, [])).snd.fst, r), p))) none) (P.cond (P.ilt ((0 : Int)) (P.len [((P.get bl i ((ByteArray.mk #[]), false, [])).fst, (P.get bl i ((ByteArray.mk #[]), false, [])).snd.fst, r)])) (P.cond (P.cut ((0 : Int)) r_1.fst (P.len out)) (P.cond (P.room (P.add (P.len out) (P.len [((P.get bl i ((ByteArray.mk #[]), false, [])).fst, (P.get bl i ((ByteArray.mk #[]), false, [])).snd.fst, r)])) 48) (some (Sum.inl (P.wrap IntKind.i64 (P.add i ((1 : Int))), P.insAt out r_1.fst [((P.get bl i ((ByteArray.mk #[]), false, [])).fst, (P.get bl i ((ByteArray.mk #[]), false, [])).snd.fst, r)], p))) none) none) none)) (P.bind (atoms_Union k (r, (P.get bl i ((ByteArray.mk #[]), false, [])).snd.snd)) fun (r : List (Int × Int)) => P.bind (object_find k (out, (P.get bl i ((ByteArray.mk #[]), false, [])).fst)) fun (r_1 : Int × Bool) => P.cond r_1.snd (P.cond (P.inb r_1.fst (P.len out)) (some (Sum.inl (P.wrap IntKind.i64 (P.add i ((1 : Int))), P.set out r_1.fst ((P.get bl i ((ByteArray.mk #[]), false, [])).fst, false, r), p))) none) (P.cond (P.ilt ((0 : Int)) (P.len [((P.get bl i ((ByteArray.mk #[]), false, [])).fst, false, r)])) (P.cond (P.cut ((0 : Int)) r_1.fst (P.len out)) (P.cond (P.room (P.add (P.len out) (P.len [((P.get bl i ((ByteArray.mk #[]), false, [])).fst, false, r)])) 48) (some (Sum.inl (P.wrap IntKind.i64 (P.add i ((1 : Int))), P.insAt out r_1.fst [((P.get bl i ((ByteArray.mk #[]), false, [])).fst, false, r)], p))) none) none) none))) none)) fun (r : Int × List (ByteArray × Bool × List (Int × Int)) × List (Int × Int) ⊕ List (ByteArray × Bool × List (Int × Int)) × List (Int × Int) ⊕ List (ByteArray × Bool × List (Int × Int)) × List (Int × Int)) => some r))
theorem join_form (k : Nat) (x : Sp × Sp) : object_Join k x = P.bind (object_May k x.fst) fun (r : Bool) => P.cond (P.not r) (some ([], [])) (P.bind (object_May k x.snd) fun (r : Bool) => P.cond (P.not r) (some ([], [])) (P.bind (slCloneAtom k x.fst.snd) fun (r : List (Int × Int)) => P.bind (P.iter k (fun (y : Int × List (ByteArray × Bool × List (Int × Int)) × List (Int × Int)) => P.cond (P.ilt y.fst (P.len x.fst.fst)) (P.cond (P.inb y.fst (P.len x.fst.fst)) (P.bind (slCloneAtom k (P.get x.fst.fst y.fst ((ByteArray.mk #[]), false, [])).snd.snd) fun (r : List (Int × Int)) => P.cond (P.room (P.add (P.len y.snd.fst) (P.len [((P.get x.fst.fst y.fst ((ByteArray.mk #[]), false, [])).fst, (P.get x.fst.fst y.fst ((ByteArray.mk #[]), false, [])).snd.fst, r)])) 48) (some (Sum.inl (P.wrap IntKind.i64 (P.add y.fst ((1 : Int))), P.app y.snd.fst [((P.get x.fst.fst y.fst ((ByteArray.mk #[]), false, [])).fst, (P.get x.fst.fst y.fst ((ByteArray.mk #[]), false, [])).snd.fst, r)], y.snd.snd))) none) none) (some (Sum.inr (Sum.inl (y.snd.fst, y.snd.snd))))) ((0 : Int), [], r)) (P.either (fun (z : List (ByteArray × Bool × List (Int × Int)) × List (Int × Int)) => P.bind (atoms_Union k (x.fst.snd, x.snd.snd)) fun (r : List (Int × Int)) => P.bind (P.iter k (fun (y : Int × List (ByteArray × Bool × List (Int × Int))) => P.cond (P.ilt y.fst (P.len z.fst)) (P.cond (P.inb y.fst (P.len y.snd)) (P.bind (object_find k (x.snd.fst, (P.get y.snd y.fst ((ByteArray.mk #[]), false, [])).fst)) fun (r : Int × Bool) => P.cond (P.get y.snd y.fst ((ByteArray.mk #[]), false, [])).snd.fst (P.cond (P.inb y.fst (P.len y.snd)) (some (Sum.inl (P.wrap IntKind.i64 (P.add y.fst ((1 : Int))), P.set y.snd y.fst ((P.get y.snd y.fst ((ByteArray.mk #[]), false, [])).fst, r.snd, (P.get y.snd y.fst ((ByteArray.mk #[]), false, [])).snd.snd)))) none) (P.cond (P.inb y.fst (P.len y.snd)) (some (Sum.inl (P.wrap IntKind.i64 (P.add y.fst ((1 : Int))), P.set y.snd y.fst ((P.get y.snd y.fst ((ByteArray.mk #[]), false, [])).fst, false, (P.get y.snd y.fst ((ByteArray.mk #[]), false, [])).snd.snd)))) none)) none) (some (Sum.inr (Sum.inl y.snd)))) ((0 : Int), z.fst)) (P.either (fun (z : List (ByteArray × Bool × List (Int × Int))) => P.bind (P.iter k (fun (y : Int × List (ByteArray × Bool × List (Int × Int)) × List (Int × Int)) => P.cond (P.ilt y.fst (P.len x.snd.fst)) (P.cond (P.inb y.fst (P.len x.snd.fst)) (innerJ k x.snd.fst y.snd.fst y.snd.snd y.fst) none) (some (Sum.inr (Sum.inl (y.snd.fst, y.snd.snd))))) ((0 : Int), z, r)) (P.either (fun (z : List (ByteArray × Bool × List (Int × Int)) × List (Int × Int)) => some (z.fst, z.snd)) fun (r : List (ByteArray × Bool × List (Int × Int)) × List (Int × Int)) => some r)) fun (r : List (ByteArray × Bool × List (Int × Int)) × List (Int × Int)) => some r)) fun (r : List (ByteArray × Bool × List (Int × Int)) × List (Int × Int)) => some r))) := rfl
end Go.PL
end
section
open Go Go.PG Go.PL
set_option linter.unusedVariables false
namespace Go.PL
theorem put_run2 {ρ : Type} (l : List Fd) (p : List At) (F : Fd) (h : RisesF l) (hl : l.length ≤ 1000000) (i : Int) :
  (P.cond (get l F.1).isSome (P.cond (P.inb (pos l F.1 : Int) (P.len l)) (some (Sum.inl (i, P.set l (pos l F.1 : Int) F, p))) none) (P.cond (P.ilt ((0 : Int)) (P.len [F])) (P.cond (P.cut ((0 : Int)) (pos l F.1 : Int) (P.len l)) (P.cond (P.room (P.add (P.len l) (P.len [F])) 48) (some (Sum.inl (i, P.insAt l (pos l F.1 : Int) [F], p))) none) none) none) : Option ((Int × Sp) ⊕ ρ)) = some (.inl (i, put l F, p)) := by
 have := put_run l p F h hl
 rw [put_eq h] at this ⊢
 have hp := pos_le F.1 l
 cases q : (get l F.1).isSome
 ·rw [cond_false, show P.ilt ((0 : Int)) (P.len [F]) = true from ilt_iff.2 (by rw [len_eq]; simp), cond_true, show P.cut ((0 : Int)) (pos l F.1 : Int) (P.len l) = true from cut_iff.2 (by rw [len_eq]; omega), cond_true, room48 _ _ (by omega), cond_true, if_neg (by decide)]
  rfl
 ·rw [at_pos h, Bool.and_eq_true, decide_eq_true_eq] at q
  rw [cond_true, show P.inb (pos l F.1 : Int) (P.len l) = true from inb_iff.2 (by rw [len_eq]; omega), cond_true, if_pos rfl]
  rfl
def sndF (out : List Fd) (h : Fd) : Fd := (h.1, (getR out h.1).2 && (getR out h.1).1.2.1 && h.2.1, norm ((getR out h.1).1.2.2 ++ h.2.2))
theorem inner_spec (bl out : List Fd) (p : List At) (i : Nat) (hi : i < bl.length) (hb : bl.length ≤ 100000) (hbv : ∀ f, f ∈ bl → f.2.2.length ≤ 100000) (ho : RisesF out) (hl : out.length ≤ 900000) (hov : ∀ f, f ∈ out → f.2.2.length ≤ 300000) :
  innerJ K bl out p (i : Int) = some (.inl (((i + 1 : Nat) : Int), put out (sndF out (bl.getD i dF)), p)) := by
 have hg : P.get bl (i : Int) ((ByteArray.mk #[]), false, []) = bl.getD i dF := get_nat _ _ _
 have hhv := hbv _ (mem_getD hi)
 unfold innerJ
 rw [hg, wrap_succ (by omega)]
 generalize hh : bl.getD i dF = h at hhv ⊢
 refine find_cont out h.1 _ (fun j => contJ K bl out p (i : Int) (j : Int)) _ _ (by omega) (fun j hj => ?_) ?_ (fun j hj hn => ?_) (fun hn => ?_)
 ·try dsimp only
  rw [show P.ilt (j : Int) (P.len out) = true from ilt_iff.2 (by rw [len_eq]; omega), cond_true, show P.inb (j : Int) (P.len out) = true from inb_iff.2 (by rw [len_eq]; omega), cond_true, get_nat, wrap_succ (by omega)]
  by_cases q : (out.getD j dF).1 = h.1
  ·rw [if_pos q, show P.seq (out.getD j dF).1 h.1 = true from seq_iff.2 q, cond_true]
  ·rw [if_neg q, show P.seq (out.getD j dF).1 h.1 = false from by rw [Bool.eq_false_iff]; exact fun z => q (seq_iff.1 z)]; rfl
 ·try dsimp only
  exact copy_end _ _ _
 ·have hgo : getR out h.1 = (out.getD j dF, true) := by
   unfold getR
   rw [← hn, get_of_mem ho (mem_getD hj)]
  have hv := hov _ (mem_getD hj)
  unfold contJ
  rw [hg, hh, wrap_succ (by omega), show P.ilt (j : Int) ((0 : Int)) = false from by rw [Bool.eq_false_iff, Ne, ilt_iff]; omega, cond_false, show P.inb (j : Int) (P.len out) = true from inb_iff.2 (by rw [len_eq]; omega), cond_true, get_nat]
  have hs : sndF out h = (h.1, (out.getD j dF).2.1 && h.2.1, norm ((out.getD j dF).2.2 ++ h.2.2)) := by
   unfold sndF; rw [hgo]; simp
  rw [hs]
  generalize out.getD j dF = g at hv
  rw [at_clone K g.2.2 (by omega), bind_some, at_union g.2.2 h.2.2 (by omega), bind_some, bind_some, find_spec out h.1 ho (by omega), bind_some, bind_some]
  cases hb2 : g.2.1
  ·rw [cond_false]
   exact put_run2 out p (h.1, false, norm (g.2.2 ++ h.2.2)) ho (by omega) _
  ·rw [cond_true]
   exact put_run2 out p (h.1, h.2.1, norm (g.2.2 ++ h.2.2)) ho (by omega) _
 ·have hgo : getR out h.1 = (dF, false) := by
   unfold getR
   rw [get_none.2 fun f hf e => by
    obtain ⟨j, hj, rfl⟩ := List.getElem_of_mem hf
    have := hn j hj
    simp [List.getD_eq_getElem?_getD, hj] at this
    exact this e]
  have hs : sndF out h = (h.1, false, norm ([] ++ h.2.2)) := by
   unfold sndF; rw [hgo]; simp
  rw [hs, show P.ilt ((-1 : Int)) ((0 : Int)) = true from by decide, cond_true, at_union [] h.2.2 (by simp; omega), bind_some, find_spec out h.1 ho (by omega), bind_some]
  exact put_run2 out p (h.1, false, norm ([] ++ h.2.2)) ho (by omega) _
end Go.PL
end
section
open Go Go.PG Go.PL
set_option linter.unusedVariables false
namespace Go.PL
def fstF (b : List Fd) (f : Fd) : Fd := (f.1, f.2.1 && has b f.1, f.2.2)
theorem get_map {l : List Fd} {g : Fd → Fd} (hg : ∀ f, (g f).1 = f.1) (n : ByteArray) : get (l.map g) n = (get l n).map g := by
 induction l with
 | nil => rfl
 | cons f l ih =>
  simp only [get, List.map_cons, List.find?_cons, hg] at ih ⊢
  by_cases q : f.1 = n
  ·simp only [q, decide_true, Option.map_some]
  ·simp only [q, decide_false]
   exact ih
theorem rises_map {l : List Fd} {g : Fd → Fd} (hg : ∀ f, (g f).1 = f.1) (h : RisesF l) : RisesF (l.map g) := by
 refine List.pairwise_map.2 (h.imp fun {a b} q => ?_)
 rw [hg, hg]; exact q
def foldS (l acc : List Fd) : List Fd := l.foldl (fun out g => put out (sndF out g)) acc
theorem foldS_spec (a b : List Fd) (hb : RisesF b) : ∀ (l m acc : List Fd), b = m ++ l → RisesF acc → (∀ n, get acc n = if has m n = true then some (joinF a b n) else (get a n).map (fstF b)) →
  RisesF (foldS l acc) ∧ ∀ n, get (foldS l acc) n = if has b n = true then some (joinF a b n) else (get a n).map (fstF b) := by
 intro l
 induction l with
 | nil =>
  intro m acc hm hr hg
  rw [List.append_nil] at hm
  subst hm
  exact ⟨hr, hg⟩
 | cons g l ih =>
  intro m acc hm hr hg
  have hgm : has m g.1 = false := by
   cases q : has m g.1
   ·rfl
   ·exfalso
    unfold has at q
    obtain ⟨f, hf⟩ := Option.isSome_iff_exists.1 q
    rw [hm] at hb
    have := (List.pairwise_append.1 hb).2.2 f (get_mem hf) g (by simp)
    rw [get_name hf] at this
    exact ltS_irrefl _ this
  have hgb : get b g.1 = some g := get_of_mem hb (by rw [hm]; simp)
  have hs : sndF acc g = joinF a b g.1 := by
   unfold sndF joinF
   have e1 : getR b g.1 = (g, true) := by unfold getR; rw [hgb]
   have e2 := hg g.1
   rw [hgm] at e2
   simp only [Bool.false_eq_true, if_false] at e2
   rw [e1]
   unfold getR
   rw [e2]
   have hhas : has b g.1 = true := by unfold has; rw [hgb]; rfl
   cases q : get a g.1 with
   | none => simp
   | some f => simp [fstF, get_name q, hhas]
  refine ih (m ++ [g]) (put acc (sndF acc g)) (by rw [hm]; simp) (put_rises hr) fun n => ?_
  rw [get_put hr, hs, hg, has_append, has_cons]
  by_cases e : g.1 = n
  ·rw [if_pos (show (joinF a b g.1).1 = n from e), if_pos (by simp [e]), e]
  ·rw [if_neg (show ¬ (joinF a b g.1).1 = n from e)]
   have : has [] n = false := rfl
   simp [e, this]
theorem joined {a b : List Fd} (ha : RisesF a) (hb : RisesF b) (hv : ∀ f, f ∈ a → f.2.2 = norm f.2.2) : foldS b (a.map (fstF b)) = joinL a b := by
 obtain ⟨h1, h2⟩ := foldS_spec a b hb b [] (a.map (fstF b)) rfl (rises_map (g := fstF b) (fun _ => rfl) ha) (fun n => by
  rw [get_map (g := fstF b) (fun _ => rfl)]; simp [has, get])
 refine risesF_ext h1 (joinL_rises a b) fun n => ?_
 rw [h2, get_joinL]
 cases q : has b n
 ·simp only [Bool.false_eq_true, if_false, Bool.or_false]
  have hn : get b n = none := by
   unfold has at q
   exact Option.not_isSome_iff_eq_none.1 (by rw [q]; simp)
  cases q2 : get a n with
  | none => simp [has, q2]
  | some f =>
   have : has a n = true := by unfold has; rw [q2]; rfl
   rw [if_pos this]
   have e1 : getR b n = (dF, false) := by unfold getR; rw [hn]
   have e2 : getR a n = (f, true) := by unfold getR; rw [q2]
   simp only [Option.map_some, joinF, fstF, e1, e2, get_name q2, q]
   have := hv f (get_mem q2)
   simp
   exact this
 ·simp
end Go.PL
end
section
open Go Go.PG Go.PL
set_option linter.unusedVariables false
namespace Go.PL
def outJ (a b : List Fd) (i : Nat) : List Fd := foldS (b.take i) (a.map (fstF b))
theorem outJ_succ (a b : List Fd) {i : Nat} (h : i < b.length) : outJ a b (i + 1) = put (outJ a b i) (sndF (outJ a b i) (b.getD i dF)) := by
 unfold outJ foldS
 rw [take_getF h, List.foldl_append]
 rfl
theorem outJ_spec {a b : List Fd} (ha : RisesF a) (hb : RisesF b) : ∀ i, i ≤ b.length → RisesF (outJ a b i) ∧ (∀ n, get (outJ a b i) n = if has (b.take i) n = true then some (joinF a b n) else (get a n).map (fstF b)) ∧ (outJ a b i).length ≤ a.length + i := by
 have hput : ∀ (f : Fd) (l : List Fd), (put l f).length ≤ l.length + 1 := by
  intro f l
  induction l with
  | nil => simp [put]
  | cons g l ih =>
   unfold put
   split
   ·simp
   ·split
    ·simp
    ·simp; exact ih
 intro i
 induction i with
 | zero =>
  intro _
  refine ⟨rises_map (g := fstF b) (fun _ => rfl) ha, fun n => ?_, by simp [outJ, foldS]⟩
  show get (a.map (fstF b)) n = _
  rw [get_map (g := fstF b) (fun _ => rfl)]; simp [has, get]
 | succ i ih =>
  intro hi
  obtain ⟨h1, h2, h3⟩ := ih (by omega)
  have hgb : get b (b.getD i dF).1 = some (b.getD i dF) := get_of_mem hb (mem_getD (by omega))
  have hgm : has (b.take i) (b.getD i dF).1 = false := by
   cases q : has (b.take i) (b.getD i dF).1
   ·rfl
   ·exfalso
    unfold has at q
    obtain ⟨f, hf⟩ := Option.isSome_iff_exists.1 q
    have hb' := hb
    rw [show b = b.take i ++ b.drop i from (List.take_append_drop i b).symm, drop_getF (show i < b.length by omega)] at hb'
    have := (List.pairwise_append.1 hb').2.2 f (get_mem hf) (b.getD i dF) (by simp)
    rw [get_name hf] at this
    exact ltS_irrefl _ this
  have hs : sndF (outJ a b i) (b.getD i dF) = joinF a b (b.getD i dF).1 := by
   generalize b.getD i dF = g at hgb hgm
   unfold sndF joinF
   have e1 : getR b g.1 = (g, true) := by unfold getR; rw [hgb]
   have e2 := h2 g.1
   rw [hgm] at e2
   simp only [Bool.false_eq_true, if_false] at e2
   rw [e1]
   unfold getR
   rw [e2]
   have hhas : has b g.1 = true := by unfold has; rw [hgb]; rfl
   cases q : get a g.1 with
   | none => simp
   | some f => simp [fstF, get_name q, hhas]
  rw [outJ_succ a b (by omega)]
  refine ⟨put_rises h1, fun n => ?_, by have := hput (sndF (outJ a b i) (b.getD i dF)) (outJ a b i); omega⟩
  rw [get_put h1, hs, h2, take_getF (show i < b.length by omega), has_append, has_cons]
  by_cases e : (b.getD i dF).1 = n
  ·rw [if_pos (show (joinF a b (b.getD i dF).1).1 = n from e), if_pos (by rw [decide_eq_true e]; simp), e]
  ·rw [if_neg (show ¬ (joinF a b (b.getD i dF).1).1 = n from e)]
   have : has [] n = false := rfl
   rw [this, decide_eq_false e]
   simp
theorem outJ_few {a b : Sp} (ha : RisesF a.1) (hb : RisesF b.1) (fa : FewS a) (fb : FewS b) (i : Nat) (hi : i ≤ b.1.length) : ∀ f, f ∈ outJ a.1 b.1 i → f.2.2.length ≤ 300000 := by
 intro f hf
 obtain ⟨h1, h2, _⟩ := outJ_spec ha hb i hi
 have h := get_of_mem h1 hf
 rw [h2] at h
 have w1 := getR_few fa f.1
 have w2 := getR_few fb f.1
 by_cases q : has (b.1.take i) f.1 = true
 ·rw [if_pos q] at h
  have h := Option.some.inj h
  rw [← h]
  have := norm_length ((getR a.1 f.1).1.2.2 ++ (getR b.1 f.1).1.2.2)
  rw [List.length_append] at this
  show (norm ((getR a.1 f.1).1.2.2 ++ (getR b.1 f.1).1.2.2)).length ≤ _
  omega
 ·rw [if_neg q] at h
  cases z : get a.1 f.1 with
  | none => rw [z] at h; cases h
  | some g =>
   rw [z] at h
   have h := Option.some.inj h
   rw [← h]
   have := fa.2.1 g (get_mem z)
   show g.2.2.length ≤ _
   omega
def mixJ (b l : List Fd) (i : Nat) : List Fd := (l.take i).map (fstF b) ++ l.drop i
theorem mixJ_len (b l : List Fd) (i : Nat) : (mixJ b l i).length = l.length := by simp [mixJ]; omega
theorem mixJ_get (b l : List Fd) {i : Nat} (h : i < l.length) : (mixJ b l i).getD i dF = l.getD i dF := by
 have hl : ((l.take i).map (fstF b)).length = i := by rw [List.length_map, List.length_take]; omega
 simp only [mixJ, List.getD_eq_getElem?_getD]
 rw [List.getElem?_append_right (by omega), hl, Nat.sub_self, List.getElem?_drop, Nat.add_zero]
theorem mixJ_set (b l : List Fd) {i : Nat} (h : i < l.length) : (mixJ b l i).set i (fstF b (l.getD i dF)) = mixJ b l (i + 1) := by
 have hl : ((l.take i).map (fstF b)).length = i := by rw [List.length_map, List.length_take]; omega
 unfold mixJ
 rw [List.set_append_right _ _ (by omega), hl, Nat.sub_self, drop_getF h, List.set_cons_zero, take_getF h, List.map_append]
 simp
theorem ob_join (a b : Sp) (ha : FewS a) (hb : FewS b) : object_Join K (a, b) = some (join a b) := by
 rw [join_form]
 unfold join
 try dsimp only
 have hal := ha.1; have hbl := hb.1
 rw [ob_may a ha, bind_some]
 by_cases m1 : MayO a
 ·rw [decide_eq_true m1, show P.not true = false from rfl, cond_false, ob_may b hb, bind_some]
  by_cases m2 : MayO b
  ·rw [decide_eq_true m2, show P.not true = false from rfl, cond_false, if_pos ⟨m1, m2⟩, at_clone K a.2 (by have := ha.2.2; omega), bind_some, copy_run a.1 a.2 (by omega) _ (fun i hi => copy_step a.1 (by omega) ha.2.1 a.2 i hi) (copy_end _ _ _), bind_some, either_inl, at_union a.2 b.2 (by have := ha.2.2; have := hb.2.2; omega), bind_some]
   have run : ∀ f : Int × List Fd → Option ((Int × List Fd) ⊕ (List Fd ⊕ Sp)),
     (∀ i : Nat, i < a.1.length → f ((i : Int), mixJ b.1 a.1 i) = some (.inl (((i + 1 : Nat) : Int), (mixJ b.1 a.1 i).set i (fstF b.1 (a.1.getD i dF))))) →
     f ((a.1.length : Int), mixJ b.1 a.1 a.1.length) = some (.inr (.inl (mixJ b.1 a.1 a.1.length))) →
     P.iter K f (0, a.1) = some (.inl (a.1.map (fstF b.1))) := by
    intro f hs he
    have e0 : mixJ b.1 a.1 0 = a.1 := by simp [mixJ]
    have en : mixJ b.1 a.1 a.1.length = a.1.map (fstF b.1) := by simp [mixJ]
    have := iter_run (f := f) (fun i => ((i : Int), mixJ b.1 a.1 i)) _ a.1.length 0 K (by unfold K; omega) (fun j hj => by simp only [Nat.zero_add]; rw [hs j hj, mixJ_set b.1 a.1 hj]) (by simpa using he)
    rw [e0] at this
    rw [show ((0 : Nat) : Int) = 0 from rfl] at this
    rw [this, en]
   rw [run _ ?_ ?_]
   ·rw [bind_some, either_inl]
    have run2 : ∀ f : Int × Sp → Option ((Int × Sp) ⊕ (Sp ⊕ Sp)),
      (∀ i : Nat, i < b.1.length → f ((i : Int), outJ a.1 b.1 i, norm (a.2 ++ b.2)) = some (.inl (((i + 1 : Nat) : Int), put (outJ a.1 b.1 i) (sndF (outJ a.1 b.1 i) (b.1.getD i dF)), norm (a.2 ++ b.2)))) →
      f ((b.1.length : Int), outJ a.1 b.1 b.1.length, norm (a.2 ++ b.2)) = some (.inr (.inl (outJ a.1 b.1 b.1.length, norm (a.2 ++ b.2)))) →
      P.iter K f (0, a.1.map (fstF b.1), norm (a.2 ++ b.2)) = some (.inl (outJ a.1 b.1 b.1.length, norm (a.2 ++ b.2))) := by
     intro f hs he
     have := iter_run (f := f) (fun i => ((i : Int), outJ a.1 b.1 i, norm (a.2 ++ b.2))) _ b.1.length 0 K (by unfold K; omega) (fun j hj => by simp only [Nat.zero_add]; rw [hs j hj, outJ_succ a.1 b.1 hj]) (by simpa using he)
     have e0 : outJ a.1 b.1 0 = a.1.map (fstF b.1) := by simp [outJ, foldS]
     rw [e0] at this
     rw [show ((0 : Nat) : Int) = 0 from rfl] at this
     exact this
    rw [run2 _ ?_ ?_]
    ·rw [bind_some, either_inl]
     have : outJ a.1 b.1 b.1.length = joinL a.1 b.1 := by
      unfold outJ
      rw [List.take_length]
      exact joined m1.1 m2.1 m1.2.1
     rw [this]
    ·intro i hi
     obtain ⟨h1, _, h3⟩ := outJ_spec m1.1 m2.1 i (by omega)
     try dsimp only
     rw [show P.ilt (i : Int) (P.len b.1) = true from ilt_iff.2 (by rw [len_eq]; omega), cond_true, show P.inb (i : Int) (P.len b.1) = true from inb_iff.2 (by rw [len_eq]; omega), cond_true]
     exact inner_spec b.1 (outJ a.1 b.1 i) (norm (a.2 ++ b.2)) i hi hbl hb.2.1 h1 (by omega) (outJ_few m1.1 m2.1 ha hb i (by omega))
    ·try dsimp only
     exact copy_end _ _ _
   ·intro i hi
    try dsimp only
    rw [show P.ilt (i : Int) (P.len a.1) = true from ilt_iff.2 (by rw [len_eq]; omega), cond_true, show P.inb (i : Int) (P.len (mixJ b.1 a.1 i)) = true from inb_iff.2 (by rw [len_eq, mixJ_len]; omega), cond_true, get_nat, mixJ_get b.1 a.1 hi, find_spec b.1 _ m2.1 (by omega), bind_some]
    have e : fstF b.1 (a.1.getD i dF) = ((a.1.getD i dF).1, (a.1.getD i dF).2.1 && (get b.1 (a.1.getD i dF).1).isSome, (a.1.getD i dF).2.2) := rfl
    rw [e]
    cases q : (a.1.getD i dF).2.1
    ·rw [cond_false, cond_true, wrap_succ (by omega)]; rfl
    ·rw [cond_true, cond_true, wrap_succ (by omega)]; rfl
   ·try dsimp only
    exact copy_end _ _ _
  ·rw [decide_eq_false m2, show P.not false = true from rfl, cond_true, if_neg fun z => m2 z.2]
 ·rw [decide_eq_false m1, show P.not false = true from rfl, cond_true, if_neg fun z => m1 z.1]
end Go.PL
end
section
open Go Go.PG Go.PL
set_option linter.unusedVariables false
namespace Go.PL
instance (s : Sp) : Decidable (FewS s) := by unfold FewS; exact inferInstance
end Go.PL
end
section
open Go Go.PG Go.PL
set_option linter.unusedVariables false
namespace Go.PL
def pr (l : List Fd) (n : ByteArray) : Bool := (getR l n).2
def su (l : List Fd) (n : ByteArray) : Bool := (getR l n).1.2.1
def va (l : List Fd) (n : ByteArray) : List At := (getR l n).1.2.2
theorem view_none {l : List Fd} {n : ByteArray} (h : pr l n = false) : su l n = false ∧ va l n = [] := by
 unfold pr su va getR at *
 cases q : get l n with
 | none => simp
 | some f => rw [q] at h; simp at h
theorem view_of_get {l : List Fd} {n : ByteArray} {p s : Bool} {v : List At} (h : get l n = if p = true then some (n, s, v) else none) (hn : p = false → s = false ∧ v = []) : pr l n = p ∧ su l n = s ∧ va l n = v := by
 unfold pr su va getR
 rw [h]
 cases p
 ·obtain ⟨h1, h2⟩ := hn rfl; simp [h1, h2]
 ·simp
theorem su_pr {l : List Fd} {n : ByteArray} (h : su l n = true) : pr l n = true := by
 cases q : pr l n
 ·rw [(view_none q).1] at h; cases h
 ·rfl
theorem has_pr (l : List Fd) (n : ByteArray) : has l n = pr l n := (getR_snd l n).symm
theorem may_of_view {s : Sp} (h : RisesF s.1) (hv : ∀ n, Canon (va s.1 n)) (hp : Canon s.2) : MayO s := by
 refine ⟨h, fun f hf => canon_iff.2 ?_, canon_iff.2 hp⟩
 have := hv f.1
 unfold va getR at this
 rw [get_of_mem h hf] at this
 exact this
theorem join_view (a b : List Fd) (n : ByteArray) : pr (joinL a b) n = (pr a n || pr b n) ∧ su (joinL a b) n = (su a n && su b n) ∧ va (joinL a b) n = norm (va a n ++ va b n) := by
 refine view_of_get ?_ fun h => ?_
 ·rw [get_joinL, has_pr, has_pr]
  have : joinF a b n = (n, (su a n && su b n), norm (va a n ++ va b n)) := by
   show (n, pr a n && pr b n && su a n && su b n, norm (va a n ++ va b n)) = _
   congr 2
   cases q1 : su a n
   ·simp
   ·cases q2 : su b n
    ·simp
    ·simp [su_pr q1, su_pr q2]
  rw [this]
 ·rw [Bool.or_eq_false_iff] at h
  rw [(view_none h.1).1, (view_none h.1).2, (view_none h.2).2]
  exact ⟨rfl, rfl⟩
theorem join_eq {a b : Sp} (ha : MayO a) (hb : MayO b) : join a b = (joinL a.1 b.1, norm (a.2 ++ b.2)) := by unfold join; rw [if_pos ⟨ha, hb⟩]
theorem join_may {a b : Sp} (ha : MayO a) (hb : MayO b) : MayO (join a b) := by
 rw [join_eq ha hb]
 refine may_of_view (joinL_rises _ _) (fun n => ?_) (norm_canon _)
 show Canon (va (joinL a.1 b.1) n)
 rw [(join_view a.1 b.1 n).2.2]
 exact norm_canon _
end Go.PL
end
section
open Go Go.PG Go.PL
set_option linter.unusedVariables false
namespace Go.PL
def Bd (k : Nat) (s : Sp) : Prop := s.1.length ≤ k ∧ (∀ f, f ∈ s.1 → f.2.2.length ≤ k) ∧ s.2.length ≤ k
theorem bd_few {s : Sp} {k : Nat} (h : Bd k s) (hk : k ≤ 100000) : FewS s := ⟨Nat.le_trans h.1 hk, fun f hf => Nat.le_trans (h.2.1 f hf) hk, Nat.le_trans h.2.2 hk⟩
theorem bd_va {s : Sp} {k : Nat} (h : Bd k s) (n : ByteArray) : (va s.1 n).length ≤ k := by
 unfold va getR
 cases q : get s.1 n with
 | none => simp
 | some f => exact h.2.1 f (get_mem q)
theorem bd_empty (k : Nat) : Bd k (([], []) : Sp) := ⟨by simp, by simp, by simp⟩
theorem join_bd {a b : Sp} {i j : Nat} (h1 : Bd i a) (h2 : Bd j b) : Bd (i + j) (join a b) := by
 unfold join
 split
 ·refine ⟨?_, fun f hf => ?_, ?_⟩
  ·have := foldJ_length a.1 b.1 (a.1 ++ b.1) []
   rw [List.length_append] at this
   have := h1.1; have := h2.1
   show (foldJ a.1 b.1 (a.1 ++ b.1) []).length ≤ _
   simp only [List.length_nil] at *
   omega
  ·have h := get_of_mem (joinL_rises a.1 b.1) hf
   have e : va (joinL a.1 b.1) f.1 = f.2.2 := by unfold va getR; rw [h]
   rw [← e, (join_view a.1 b.1 f.1).2.2]
   have := norm_length (va a.1 f.1 ++ va b.1 f.1)
   rw [List.length_append] at this
   have := bd_va h1 f.1; have := bd_va h2 f.1
   omega
  ·have := norm_length (a.2 ++ b.2)
   rw [List.length_append] at this
   have := h1.2.2; have := h2.2.2
   show (norm (a.2 ++ b.2)).length ≤ _
   omega
 ·exact bd_empty _
end Go.PL
end
section
open Go Go.PG Go.PL
set_option linter.unusedVariables false
namespace Go.PL
theorem beq_refl (b : Bool) : P.beq b b = true := beq_iff.2 rfl
end Go.PL
end
section
open Go Go.PG Go.PL
set_option linter.unusedVariables false
namespace Go.PL
end Go.PL
end
section
open Go Go.PG Go.PL
set_option linter.all false
namespace Go.PL
abbrev Bv := ByteArray × List At
abbrev Lc := At × Sp
abbrev Sta := Bool × List Bv × List Lc
abbrev dB : Bv := (⟨#[]⟩, [])
abbrev dL : Lc := ((0, 0), [], [])
theorem getD_mem {α : Type} {l : List α} {i : Nat} (h : i < l.length) (d : α) : l.getD i d ∈ l := by
 simp [List.getD_eq_getElem?_getD, h]
theorem forall_getD {α : Type} {l : List α} (d : α) {p : α → Prop} : (∀ i, i < l.length → p (l.getD i d)) ↔ ∀ f, f ∈ l → p f := by
 constructor
 ·intro h f hf
  obtain ⟨i, hi, rfl⟩ := List.getElem_of_mem hf
  have := h i hi
  simpa [List.getD_eq_getElem?_getD, hi] using this
 ·intro h i hi; exact h _ (getD_mem hi d)
theorem pair_steps {α : Type} {R : α → α → Prop} (tr : ∀ {a b c}, R a b → R b c → R a c) (l : List α) (d : α) : (∀ i, i < l.length → 0 < i → R (l.getD (i - 1) d) (l.getD i d)) ↔ l.Pairwise R := by
 constructor
 ·intro h
  have key : ∀ k i, i + k + 1 < l.length → R (l.getD i d) (l.getD (i + k + 1) d) := by
   intro k
   induction k with
   | zero => intro i hi; have := h (i + 1) hi (by omega); simpa using this
   | succ k ih =>
    intro i hi
    have h1 := ih i (by omega)
    have h2 := h (i + (k + 1) + 1) hi (by omega)
    rw [show i + (k + 1) + 1 - 1 = i + k + 1 by omega] at h2
    exact tr h1 h2
  refine List.pairwise_iff_getElem.2 fun i j hi hj hij => ?_
  have := key (j - i - 1) i (by omega)
  rw [show i + (j - i - 1) + 1 = j by omega] at this
  simpa [List.getD_eq_getElem?_getD, hi, hj] using this
 ·intro h i hi h0
  have := List.pairwise_iff_getElem.1 h (i - 1) i (by omega) hi (by omega)
  simpa [List.getD_eq_getElem?_getD, hi, show i - 1 < l.length by omega] using this
theorem ext_getD {α : Type} {a b : List α} (d : α) (h : a.length = b.length) : (∀ i, i < a.length → a.getD i d = b.getD i d) ↔ a = b := by
 constructor
 ·intro q
  refine List.ext_getElem h fun i h1 h2 => ?_
  have := q i h1
  simpa [List.getD_eq_getElem?_getD, h1, h2] using this
 ·rintro rfl _ _; rfl
theorem take_getD' {α : Type} {l : List α} {j : Nat} (h : j < l.length) (d : α) : l.take (j + 1) = l.take j ++ [l.getD j d] := by
 rw [List.take_add_one, List.getElem?_eq_getElem h]
 simp [List.getD_eq_getElem?_getD, h]
theorem ilt_len {α : Type} {l : List α} {i : Nat} (h : i < l.length) : P.ilt (i : Int) (P.len l) = true := ilt_iff.2 (by rw [len_eq]; omega)
theorem ilt_end {α : Type} (l : List α) : P.ilt (l.length : Int) (P.len l) = false := by rw [Bool.eq_false_iff, Ne, ilt_iff, len_eq]; omega
theorem inb_len {α : Type} {l : List α} {i : Nat} (h : i < l.length) : P.inb (i : Int) (P.len l) = true := inb_iff.2 (by rw [len_eq]; omega)
theorem not_true : P.not true = false := rfl
theorem not_false' : P.not false = true := rfl
theorem cond_dec {α : Type} (p : Prop) [Decidable p] (x y : α) : P.cond (decide p) x y = if p then x else y := by
 by_cases h : p
 ·rw [decide_eq_true h, if_pos h]; rfl
 ·rw [decide_eq_false h, if_neg h]; rfl
theorem cond_ndec {α : Type} (p : Prop) [Decidable p] (x y : α) : P.cond (P.not (decide p)) x y = if p then y else x := by
 by_cases h : p
 ·rw [decide_eq_true h, if_pos h]; rfl
 ·rw [decide_eq_false h, if_neg h]; rfl
theorem slt_dec (a b : ByteArray) : P.slt a b = decide (ltS a b) := by rw [Bool.eq_iff_iff, slt_iff, decide_eq_true_eq]
theorem seq_dec (a b : ByteArray) : P.seq a b = decide (a = b) := by rw [Bool.eq_iff_iff, seq_iff, decide_eq_true_eq]
theorem ilt_dec (a b : Int) : P.ilt a b = decide (a < b) := rfl
theorem ile_dec (a b : Int) : P.ile a b = decide (a ≤ b) := rfl
theorem eqA_dec (a b : At) : P.and (P.ieq a.1 b.1) (P.ieq a.2 b.2) = decide (a = b) := by rw [Bool.eq_iff_iff, eqA_iff, decide_eq_true_eq]
theorem beq_dec (a b : Bool) : P.beq a b = decide (a = b) := by cases a <;> cases b <;> rfl
theorem loop_all {ρ σ : Type} (n : Nat) (p : Nat → Prop) [DecidablePred p] {f : Int → Option (Int ⊕ (Unit ⊕ ρ))} {A : Option σ} {B : ρ → Option σ} {r : ρ} (hn : n ≤ 1000000000)
  (hs : ∀ i : Nat, i < n → f (i : Int) = some (if p i then .inl ((i + 1 : Nat) : Int) else .inr (.inr r))) (he : f (n : Int) = some (.inr (.inl ()))) :
  P.bind (P.iter K f 0) (P.either (fun (_ : Unit) => A) B) = if ∀ i, i < n → p i then A else B r := by
 rw [iter_all (n := n) (e := .inl ()) (r := .inr r) p K hs he (by unfold K; omega), bind_some]
 by_cases q : ∀ i, i < n → p i
 ·rw [if_pos q, if_pos q]; rfl
 ·rw [if_neg q, if_neg q]; rfl
theorem loop_fold {τ ρ σ : Type} (n : Nat) (s : Nat → τ) {f : Int × τ → Option ((Int × τ) ⊕ (τ ⊕ ρ))} {A : τ → Option σ} {B : ρ → Option σ} (hn : n ≤ 1000000000)
  (hs : ∀ i : Nat, i < n → f ((i : Int), s i) = some (.inl (((i + 1 : Nat) : Int), s (i + 1)))) (he : f ((n : Int), s n) = some (.inr (.inl (s n)))) :
  P.bind (P.iter K f (0, s 0)) (P.either A B) = A (s n) := by
 have := iter_run (f := f) (fun i => ((i : Int), s i)) _ n 0 K (by unfold K; omega) (fun j hj => by simp only [Nat.zero_add]; exact hs j hj) (by simpa using he)
 rw [show ((0 : Nat) : Int) = 0 from rfl] at this
 rw [this, bind_some, either_inl]
def PlaceA (a : At) : Prop := (a.1 = 4 ∨ a.1 = 5) ∧ 0 ≤ a.2
instance (a : At) : Decidable (PlaceA a) := by unfold PlaceA; exact inferInstance
abbrev RisesB (l : List Bv) : Prop := l.Pairwise fun a b => ltS a.1 b.1
abbrev RisesL (l : List Lc) : Prop := l.Pairwise fun a b => ltA a.1 b.1
def MayS (s : Sta) : Prop := (RisesB s.2.1 ∧ ∀ b, b ∈ s.2.1 → b.2 = norm b.2) ∧ (RisesL s.2.2 ∧ ∀ l, l ∈ s.2.2 → PlaceA l.1 ∧ MayO l.2) ∧ (s.1 = true → s.2.1 = [] ∧ s.2.2 = [])
instance (s : Sta) : Decidable (MayS s) := by unfold MayS; exact inferInstance
def FewT (s : Sta) : Prop := s.2.1.length ≤ 100000 ∧ (∀ b, b ∈ s.2.1 → b.2.length ≤ 100000) ∧ s.2.2.length ≤ 100000 ∧ ∀ l, l ∈ s.2.2 → FewS l.2
instance (s : Sta) : Decidable (FewT s) := by unfold FewT; exact inferInstance
theorem ref_place (k : Nat) (a : At) : ref08_Place k a = some (decide (PlaceA a)) := by
 unfold ref08_Place
 obtain ⟨x, y⟩ := a
 try dsimp only
 simp only [PlaceA, ieq_eq, ile_dec, cond_dec]
 by_cases h4 : x = 4
 ·rw [if_pos h4]; simp [h4]
 ·by_cases h5 : x = 5
  ·rw [if_neg h4, if_pos h5]; simp [h5]
  ·rw [if_neg h4, if_neg h5]; simp [h4, h5]
theorem norm_one {a : At} : [a] = norm [a] ↔ RightA a := by
 rw [canon_iff]
 exact ⟨fun h => h.2 a (by simp), fun h => ⟨List.pairwise_singleton _ _, fun z hz => by rw [List.mem_singleton] at hz; rw [hz]; exact h⟩⟩
theorem st_place (a : At) : state_place K a = some (decide (PlaceA a)) := by
 unfold state_place
 try dsimp only
 rw [at_may [a] (by simp), bind_some]
 have e : decide ([a] = norm [a]) = decide (RightA a) := by rw [decide_eq_decide]; exact norm_one
 rw [e]
 obtain ⟨x, y⟩ := a
 simp only [PlaceA, RightA, ieq_eq, cond_dec]
 by_cases h4 : x = 4
 ·rw [if_pos h4]; simp [h4]
 ·by_cases h5 : x = 5
  ·rw [if_neg h4, if_pos h5]; simp [h5]
  ·rw [if_neg h4, if_neg h5]; simp [h4, h5]
theorem cmp_int (k : Nat) (x y : Int) : cmp_Compare_int k (x, y) = some (if x < y then -1 else if y < x then 1 else 0) := by
 unfold cmp_Compare_int
 try dsimp only
 have h : ∀ z : Int, cmp_isNaN_int k z = some false := by
  intro z
  unfold cmp_isNaN_int
  simp [P.not, P.ieq]
 rw [h, bind_some, h, bind_some, cond_false, cond_false, ilt_dec, ilt_dec, cond_dec, cond_dec]
 repeat' split
 all_goals first | rfl | omega
theorem at_compare (a b : At) : ∃ r : Int, atoms_Compare K (a, b) = some r ∧ (0 ≤ r ↔ ¬ ltA a b) := by
 unfold atoms_Compare
 try dsimp only
 rw [cmp_int, bind_some, cmp_int, bind_some]
 have hor : ∀ x y : Int, cmp_Or_int K [x, y] = some (if x = 0 then y else x) := by
  intro x y
  unfold cmp_Or_int
  try dsimp only
  have hK : ∃ m, K = m + 3 := ⟨18446744073709551613, rfl⟩
  obtain ⟨m, hm⟩ := hK
  rw [hm]
  by_cases hx : x = 0
  ·subst hx
   by_cases hy : y = 0
   ·subst hy; rfl
   ·rw [iter_succ]
    simp [P.ilt, P.inb, P.len, P.cond, P.get, P.ieq, P.not, P.wrap, P.add, IntKind.wrap, IntKind.bits, IntKind.signed]
    rw [iter_succ]
    have hy' : (y == 0) = false := by simp [hy]
    simp [P.ilt, P.inb, P.len, P.cond, P.get, P.ieq, P.not, P.bind, P.either, hy']
  ·rw [iter_succ]
   have hx' : (x == 0) = false := by simp [hx]
   simp [P.ilt, P.inb, P.len, P.cond, P.get, P.ieq, P.not, P.bind, P.either, hx, hx']
 rw [hor, bind_some]
 refine ⟨_, rfl, ?_⟩
 unfold ltA
 repeat' split
 all_goals omega
end Go.PL
end
section
open Go Go.PG Go.PL
set_option linter.all false
namespace Go.PL
def StepB (l : List Bv) (i : Nat) : Prop := (l.getD i dB).2 = norm (l.getD i dB).2 ∧ (0 < i → ltS (l.getD (i - 1) dB).1 (l.getD i dB).1)
instance (l : List Bv) (i : Nat) : Decidable (StepB l i) := by unfold StepB; exact inferInstance
def StepL (l : List Lc) (i : Nat) : Prop := (PlaceA (l.getD i dL).1 ∧ MayO (l.getD i dL).2) ∧ (0 < i → ltA (l.getD (i - 1) dL).1 (l.getD i dL).1)
instance (l : List Lc) (i : Nat) : Decidable (StepL l i) := by unfold StepL; exact inferInstance
theorem stepsB_iff {l : List Bv} : (∀ i, i < l.length → StepB l i) ↔ RisesB l ∧ ∀ f, f ∈ l → f.2 = norm f.2 := by
 have e1 := pair_steps (R := fun a b : Bv => ltS a.1 b.1) (fun h1 h2 => ltS_trans h1 h2) l dB
 have e2 := forall_getD (l := l) dB (p := fun f : Bv => f.2 = norm f.2)
 exact ⟨fun h => ⟨e1.1 fun i hi => (h i hi).2, e2.1 fun i hi => (h i hi).1⟩, fun h i hi => ⟨e2.2 h.2 i hi, e1.2 h.1 i hi⟩⟩
theorem stepsL_iff {l : List Lc} : (∀ i, i < l.length → StepL l i) ↔ RisesL l ∧ ∀ f, f ∈ l → PlaceA f.1 ∧ MayO f.2 := by
 have e1 := pair_steps (R := fun a b : Lc => ltA a.1 b.1) (fun h1 h2 => ltA_trans h1 h2) l dL
 have e2 := forall_getD (l := l) dL (p := fun f : Lc => PlaceA f.1 ∧ MayO f.2)
 exact ⟨fun h => ⟨e1.1 fun i hi => (h i hi).2, e2.1 fun i hi => (h i hi).1⟩, fun h i hi => ⟨e2.2 h.2 i hi, e1.2 h.1 i hi⟩⟩
theorem may_tail (s : Sta) (A : Option Bool) (hA : A = some (decide (s.1 = true → s.2.1 = [] ∧ s.2.2 = []))) :
  (if ∀ i, i < s.2.1.length → StepB s.2.1 i then (if ∀ i, i < s.2.2.length → StepL s.2.2 i then A else some false) else some false) = some (decide (MayS s)) := by
 subst hA
 by_cases q1 : ∀ i, i < s.2.1.length → StepB s.2.1 i
 ·by_cases q2 : ∀ i, i < s.2.2.length → StepL s.2.2 i
  ·rw [if_pos q1, if_pos q2]
   congr 1
   rw [decide_eq_decide]
   exact ⟨fun h => ⟨stepsB_iff.1 q1, stepsL_iff.1 q2, h⟩, fun h => h.2.2⟩
  ·rw [if_pos q1, if_neg q2, decide_eq_false fun h : MayS s => q2 (stepsL_iff.2 h.2.1)]
 ·rw [if_neg q1, decide_eq_false fun h : MayS s => q1 (stepsB_iff.2 h.1)]
theorem ref_may8 (s : Sta) (h : FewT s) : ref08_May K s = some (decide (MayS s)) := by
 unfold ref08_May
 try dsimp only
 obtain ⟨h1, h2, h3, h4⟩ := h
 rw [loop_all s.2.1.length (StepB s.2.1) (r := false) (by omega) ?_ ?_]
 ·rw [loop_all s.2.2.length (StepL s.2.2) (r := false) (by omega) ?_ ?_]
  ·refine may_tail s _ ?_
   cases s.1
   ·simp [P.not, P.cond]
   ·rw [not_true, cond_false, ieq_eq, cond_dec, ieq_eq, len_eq, len_eq]
    by_cases q : s.2.1 = []
    ·rw [if_pos (by simp [q])]; simp [q]
    ·rw [if_neg (by simp [q])]; simp [q]
  ·intro i hi
   try dsimp only
   have hm := getD_mem hi dL
   rw [ilt_len hi, cond_true, inb_len hi, cond_true, get_nat, ref_place, bind_some, cond_ndec, cond_true, ref_may7 _ (h4 _ hm), bind_some, cond_ndec, wrap_succ (by omega)]
   by_cases q1 : PlaceA (s.2.2.getD i dL).1
   ·by_cases q2 : MayO (s.2.2.getD i dL).2
    ·rw [if_pos q1, if_pos q2]
     by_cases h0 : 0 < i
     ·rw [show P.ilt ((0 : Int)) (i : Int) = true from ilt_iff.2 (by omega), cond_true, wrap_pred h0 (by omega), inb_len (show i - 1 < s.2.2.length by omega), cond_true, get_nat, ref_less, bind_some, cond_true, cond_ndec]
      by_cases z : ltA (s.2.2.getD (i - 1) dL).1 (s.2.2.getD i dL).1
      ·rw [if_pos z, if_pos (show StepL s.2.2 i from ⟨⟨q1, q2⟩, fun _ => z⟩)]
      ·rw [if_neg z, if_neg (show ¬ StepL s.2.2 i from fun y => z (y.2 h0))]
     ·rw [show P.ilt ((0 : Int)) (i : Int) = false from by rw [Bool.eq_false_iff, Ne, ilt_iff]; omega, cond_false, if_pos (show StepL s.2.2 i from ⟨⟨q1, q2⟩, fun z => absurd z h0⟩)]
    ·rw [if_pos q1, if_neg q2, if_neg (show ¬ StepL s.2.2 i from fun z => q2 z.1.2)]
   ·rw [if_neg q1, if_neg (show ¬ StepL s.2.2 i from fun z => q1 z.1.1)]
  ·try dsimp only
   rw [ilt_end]; rfl
 ·intro i hi
  try dsimp only
  have hm := getD_mem hi dB
  rw [ilt_len hi, cond_true, inb_len hi, cond_true, get_nat, ref_may (s.2.1.getD i dB).2 (by have := h2 _ hm; omega), bind_some, cond_ndec, wrap_succ (by omega)]
  by_cases q : (s.2.1.getD i dB).2 = norm (s.2.1.getD i dB).2
  ·rw [if_pos q]
   by_cases h0 : 0 < i
   ·rw [show P.ilt ((0 : Int)) (i : Int) = true from ilt_iff.2 (by omega), cond_true, wrap_pred h0 (by omega), inb_len (show i - 1 < s.2.1.length by omega), cond_true, cond_true, get_nat, slt_dec, cond_ndec]
    by_cases z : ltS (s.2.1.getD (i - 1) dB).1 (s.2.1.getD i dB).1
    ·rw [if_pos z, if_pos (show StepB s.2.1 i from ⟨q, fun _ => z⟩)]
    ·rw [if_neg z, if_neg (show ¬ StepB s.2.1 i from fun y => z (y.2 h0))]
   ·rw [show P.ilt ((0 : Int)) (i : Int) = false from by rw [Bool.eq_false_iff, Ne, ilt_iff]; omega, cond_false, if_pos (show StepB s.2.1 i from ⟨q, fun z => absurd z h0⟩)]
  ·rw [if_neg q, if_neg (show ¬ StepB s.2.1 i from fun z => q z.1)]
 ·try dsimp only
  rw [ilt_end]; rfl
theorem st_may (s : Sta) (h : FewT s) : state_May K s = some (decide (MayS s)) := by
 unfold state_May
 try dsimp only
 obtain ⟨h1, h2, h3, h4⟩ := h
 rw [loop_all s.2.1.length (StepB s.2.1) (r := false) (by omega) ?_ ?_]
 ·rw [loop_all s.2.2.length (StepL s.2.2) (r := false) (by omega) ?_ ?_]
  ·refine may_tail s _ ?_
   cases s.1
   ·simp [P.not, P.cond]
   ·rw [not_true, cond_false, ieq_eq, len_eq, len_eq, show P.add (s.2.1.length : Int) (s.2.2.length : Int) = ((s.2.1.length + s.2.2.length : Nat) : Int) from by simp [P.add], wrap_nat (by omega)]
    congr 1
    rw [decide_eq_decide, ← List.length_eq_zero_iff, ← List.length_eq_zero_iff]
    exact ⟨fun h _ => by omega, fun h => by have := h rfl; omega⟩
  ·intro i hi
   try dsimp only
   have hm := getD_mem hi dL
   rw [ilt_len hi, cond_true, inb_len hi, cond_true, get_nat, st_place, bind_some, cond_ndec, ob_may _ (h4 _ hm), bind_some, cond_ndec, wrap_succ (by omega)]
   by_cases q1 : PlaceA (s.2.2.getD i dL).1
   ·by_cases q2 : MayO (s.2.2.getD i dL).2
    ·rw [if_pos q1, if_pos q2]
     by_cases h0 : 0 < i
     ·obtain ⟨r, hr, hlt⟩ := at_compare (s.2.2.getD (i - 1) dL).1 (s.2.2.getD i dL).1
      rw [show P.ilt ((0 : Int)) (i : Int) = true from ilt_iff.2 (by omega), cond_true, wrap_pred h0 (by omega), inb_len (show i - 1 < s.2.2.length by omega), cond_true, get_nat, hr, bind_some, ile_dec, cond_dec]
      by_cases z : ltA (s.2.2.getD (i - 1) dL).1 (s.2.2.getD i dL).1
      ·rw [if_neg (fun y => hlt.1 y z), if_pos (show StepL s.2.2 i from ⟨⟨q1, q2⟩, fun _ => z⟩)]
      ·rw [if_pos (hlt.2 z), if_neg (show ¬ StepL s.2.2 i from fun y => z (y.2 h0))]
     ·rw [show P.ilt ((0 : Int)) (i : Int) = false from by rw [Bool.eq_false_iff, Ne, ilt_iff]; omega, cond_false, if_pos (show StepL s.2.2 i from ⟨⟨q1, q2⟩, fun z => absurd z h0⟩)]
    ·rw [if_pos q1, if_neg q2, if_neg (show ¬ StepL s.2.2 i from fun z => q2 z.1.2)]
   ·rw [if_neg q1, if_neg (show ¬ StepL s.2.2 i from fun z => q1 z.1.1)]
  ·try dsimp only
   rw [ilt_end]; rfl
 ·intro i hi
  try dsimp only
  have hm := getD_mem hi dB
  rw [ilt_len hi, cond_true, inb_len hi, cond_true, get_nat, at_may (s.2.1.getD i dB).2 (by have := h2 _ hm; omega), bind_some, cond_ndec, wrap_succ (by omega)]
  by_cases q : (s.2.1.getD i dB).2 = norm (s.2.1.getD i dB).2
  ·rw [if_pos q]
   by_cases h0 : 0 < i
   ·rw [show P.ilt ((0 : Int)) (i : Int) = true from ilt_iff.2 (by omega), cond_true, wrap_pred h0 (by omega), inb_len (show i - 1 < s.2.1.length by omega), cond_true, get_nat, slt_dec, cond_ndec]
    by_cases z : ltS (s.2.1.getD (i - 1) dB).1 (s.2.1.getD i dB).1
    ·rw [if_pos z, if_pos (show StepB s.2.1 i from ⟨q, fun _ => z⟩)]
    ·rw [if_neg z, if_neg (show ¬ StepB s.2.1 i from fun y => z (y.2 h0))]
   ·rw [show P.ilt ((0 : Int)) (i : Int) = false from by rw [Bool.eq_false_iff, Ne, ilt_iff]; omega, cond_false, if_pos (show StepB s.2.1 i from ⟨q, fun z => absurd z h0⟩)]
  ·rw [if_neg q, if_neg (show ¬ StepB s.2.1 i from fun z => q z.1)]
 ·try dsimp only
  rw [ilt_end]; rfl
instance decSp : DecidableEq Sp := fun a b => inferInstance
instance decLc : DecidableEq Lc := fun a b => decidable_of_iff (a.1 = b.1 ∧ a.2 = b.2) ⟨fun h => Prod.ext h.1 h.2, fun h => by rw [h]; exact ⟨rfl, rfl⟩⟩
instance decSta : DecidableEq Sta := fun a b => decidable_of_iff (a.1 = b.1 ∧ a.2.1 = b.2.1 ∧ a.2.2 = b.2.2) ⟨fun h => Prod.ext h.1 (Prod.ext h.2.1 h.2.2), fun h => by rw [h]; exact ⟨rfl, rfl, rfl⟩⟩
theorem ieq_len {α β : Type} (a : List α) (b : List β) : P.ieq (P.len a) (P.len b) = decide (a.length = b.length) := by
 rw [ieq_eq, len_eq, len_eq, decide_eq_decide]; omega
theorem ref_same8 (a b : Sta) (h : FewT a) : ref08_Same K (a, b) = some (decide (a = b)) := by
 obtain ⟨h1, h2, h3, h4⟩ := h
 unfold ref08_Same
 try dsimp only
 rw [beq_dec, cond_ndec, ieq_len, cond_ndec, ieq_len, cond_ndec]
 by_cases q1 : a.1 = b.1
 ·by_cases q2 : a.2.1.length = b.2.1.length
  ·by_cases q3 : a.2.2.length = b.2.2.length
   ·rw [if_pos q1, if_pos q2, if_pos q3, loop_all a.2.1.length (fun i => a.2.1.getD i dB = b.2.1.getD i dB) (r := false) (by omega) ?_ ?_]
    ·rw [loop_all a.2.2.length (fun i => a.2.2.getD i dL = b.2.2.getD i dL) (r := false) (by omega) ?_ ?_]
     ·by_cases z1 : a.2.1 = b.2.1
      ·by_cases z2 : a.2.2 = b.2.2
       ·rw [if_pos ((ext_getD dB q2).2 z1), if_pos ((ext_getD dL q3).2 z2), decide_eq_true (Prod.ext q1 (Prod.ext z1 z2))]
       ·rw [if_pos ((ext_getD dB q2).2 z1), if_neg (fun z => z2 ((ext_getD dL q3).1 z)), decide_eq_false (fun z : a = b => z2 (by rw [z]))]
      ·rw [if_neg (fun z => z1 ((ext_getD dB q2).1 z)), decide_eq_false (fun z : a = b => z1 (by rw [z]))]
     ·intro i hi
      try dsimp only
      have hm := getD_mem hi dL
      rw [ilt_len hi, cond_true, inb_len hi, cond_true, inb_len (show i < b.2.2.length by omega), cond_true, get_nat, get_nat, eqA_dec, cond_ndec, cond_true, cond_true, ref_same7 _ _ (h4 _ hm), bind_some, cond_ndec, wrap_succ (by omega)]
      by_cases z1 : (a.2.2.getD i dL).1 = (b.2.2.getD i dL).1
      ·by_cases z2 : (a.2.2.getD i dL).2 = (b.2.2.getD i dL).2
       ·rw [if_pos z1, if_pos z2, if_pos (Prod.ext z1 z2)]
       ·rw [if_pos z1, if_neg z2, if_neg (fun z : a.2.2.getD i dL = b.2.2.getD i dL => z2 (by rw [z]))]
      ·rw [if_neg z1, if_neg (fun z : a.2.2.getD i dL = b.2.2.getD i dL => z1 (by rw [z]))]
     ·try dsimp only
      rw [ilt_end]; rfl
    ·intro i hi
     try dsimp only
     have hm := getD_mem hi dB
     rw [ilt_len hi, cond_true, inb_len hi, cond_true, inb_len (show i < b.2.1.length by omega), cond_true, get_nat, get_nat, seq_dec, cond_ndec, cond_true, cond_true, ref_same (a.2.1.getD i dB).2 (b.2.1.getD i dB).2 (by have := h2 _ hm; omega), bind_some, cond_ndec, wrap_succ (by omega)]
     by_cases z1 : (a.2.1.getD i dB).1 = (b.2.1.getD i dB).1
     ·by_cases z2 : (a.2.1.getD i dB).2 = (b.2.1.getD i dB).2
      ·rw [if_pos z1, if_pos z2, if_pos (Prod.ext z1 z2)]
      ·rw [if_pos z1, if_neg z2, if_neg (fun z : a.2.1.getD i dB = b.2.1.getD i dB => z2 (by rw [z]))]
     ·rw [if_neg z1, if_neg (fun z : a.2.1.getD i dB = b.2.1.getD i dB => z1 (by rw [z]))]
    ·try dsimp only
     rw [ilt_end]; rfl
   ·rw [if_pos q1, if_pos q2, if_neg q3, decide_eq_false (fun z : a = b => q3 (by rw [z]))]
  ·rw [if_pos q1, if_neg q2, decide_eq_false (fun z : a = b => q2 (by rw [z]))]
 ·rw [if_neg q1, decide_eq_false (fun z : a = b => q1 (by rw [z]))]
end Go.PL
end
section
open Go Go.PG Go.PL
set_option linter.all false
namespace Go.PL
theorem range_findSome {α ρ : Type} (l : List α) (d : α) (h : α → Option ρ) : (List.range l.length).findSome? (fun i => h (l.getD i d)) = l.findSome? h := by
 conv => rhs; rw [← range_map l d]
 rw [List.findSome?_map]; rfl
theorem findSome_if {α ρ : Type} (q : α → Prop) [DecidablePred q] (g : α → ρ) : ∀ l : List α, l.findSome? (fun x => if q x then some (g x) else none) = (l.find? fun x => decide (q x)).map g := by
 intro l
 induction l with
 | nil => rfl
 | cons a l ih =>
  rw [List.findSome?_cons, List.find?_cons]
  by_cases h : q a
  ·rw [if_pos h, decide_eq_true h]; rfl
  ·rw [if_neg h, decide_eq_false h]; exact ih
theorem loop_find {α ρ σ : Type} (l : List α) (d : α) (q : α → Prop) [DecidablePred q] (g : α → ρ) {f : Int → Option (Int ⊕ (Unit ⊕ ρ))} {A : Option σ} {B : ρ → Option σ} (hn : l.length ≤ 1000000000)
  (hs : ∀ i : Nat, i < l.length → f (i : Int) = some (if q (l.getD i d) then .inr (.inr (g (l.getD i d))) else .inl ((i + 1 : Nat) : Int))) (he : f (l.length : Int) = some (.inr (.inl ()))) :
  P.bind (P.iter K f 0) (P.either (fun (_ : Unit) => A) B) = match l.find? fun x => decide (q x) with
   | some x => B (g x)
   | none => A := by
 rw [iter_find0 (n := l.length) (e := .inl ()) (fun i => if q (l.getD i d) then some (.inr (g (l.getD i d))) else none) K (fun i hi => by
  rw [hs i hi]
  by_cases h : q (l.getD i d)
  ·rw [if_pos h, if_pos h]
  ·rw [if_neg h, if_neg h]) he (by unfold K; omega)]
 rw [range_findSome l d (fun x => if q x then some (Sum.inr (g x) : Unit ⊕ ρ) else none), findSome_if q (fun x => (Sum.inr (g x) : Unit ⊕ ρ)) l, bind_some]
 cases l.find? fun x => decide (q x) with
 | none => rfl
 | some x => rfl
def getV (l : List Bv) (n : ByteArray) : Option Bv := l.find? fun b => decide (b.1 = n)
def var (l : List Bv) (n : ByteArray) : List At := match getV l n with
 | some b => b.2
 | none => [(0, 0)]
def getL (l : List Lc) (x : At) : Option Lc := l.find? fun b => decide (b.1 = x)
def locR (l : List Lc) (x : At) : Sp × Bool := match getL l x with
 | some b => (b.2, true)
 | none => (([], []), false)
theorem ref_var (s : Sta) (n : ByteArray) (h : s.2.1.length ≤ 1000000) : ref08_Var K (s, n) = some (var s.2.1 n) := by
 unfold ref08_Var
 try dsimp only
 rw [loop_find s.2.1 dB (fun b => b.1 = n) (fun b => b.2) (by omega) ?_ ?_]
 ·unfold var getV
  cases s.2.1.find? fun b => decide (b.1 = n) with
  | none => rfl
  | some b => rfl
 ·intro i hi
  try dsimp only
  rw [ilt_len hi, cond_true, inb_len hi, cond_true, cond_true, get_nat, seq_dec, cond_dec, wrap_succ (by omega)]
  by_cases q : (s.2.1.getD i dB).1 = n
  ·rw [if_pos q, if_pos q]
  ·rw [if_neg q, if_neg q]
 ·try dsimp only
  rw [ilt_end]; rfl
theorem ref_loc (s : Sta) (x : At) (h : s.2.2.length ≤ 1000000) : ref08_Loc K (s, x) = some (locR s.2.2 x) := by
 unfold ref08_Loc
 try dsimp only
 rw [loop_find s.2.2 dL (fun b => b.1 = x) (fun b => (b.2, true)) (by omega) ?_ ?_]
 ·unfold locR getL
  cases s.2.2.find? fun b => decide (b.1 = x) with
  | none => rfl
  | some b => rfl
 ·intro i hi
  try dsimp only
  rw [ilt_len hi, cond_true, inb_len hi, cond_true, cond_true, get_nat, eqA_dec, cond_dec, wrap_succ (by omega)]
  by_cases q : (s.2.2.getD i dL).1 = x
  ·rw [if_pos q, if_pos q]
  ·rw [if_neg q, if_neg q]
 ·try dsimp only
  rw [ilt_end]; rfl
def SmallL (l : Lc) : Prop := l.2.1.length ≤ 40 ∧ l.2.2.length ≤ 40 ∧ ∀ f, f ∈ l.2.1 → f.2.2.length ≤ 40
instance (l : Lc) : Decidable (SmallL l) := by unfold SmallL; exact inferInstance
def SmallT (s : Sta) : Prop := s.2.1.length ≤ 40 ∧ s.2.2.length ≤ 40 ∧ (∀ b, b ∈ s.2.1 → b.2.length ≤ 40) ∧ ∀ l, l ∈ s.2.2 → SmallL l
instance (s : Sta) : Decidable (SmallT s) := by unfold SmallT; exact inferInstance
theorem small_fewL {l : Lc} (h : SmallL l) : FewS l.2 := ⟨by have := h.1; omega, fun f hf => by have := h.2.2 f hf; omega, by have := h.2.1; omega⟩
theorem small_fewT {s : Sta} (h : SmallT s) : FewT s := ⟨by have := h.1; omega, fun b hb => by have := h.2.2.1 b hb; omega, by have := h.2.1; omega, fun l hl => small_fewL (h.2.2.2 l hl)⟩
theorem ilt_dec40 {α : Type} (l : List α) : P.ilt (40 : Int) (P.len l) = decide (¬ l.length ≤ 40) := by rw [ilt_dec, len_eq, decide_eq_decide]; omega
theorem ref_small8 (s : Sta) : ref08_Small K s = some (decide (SmallT s)) := by
 unfold ref08_Small
 try dsimp only
 rw [ilt_dec40, cond_dec, ilt_dec40, cond_dec]
 by_cases q1 : s.2.1.length ≤ 40
 ·by_cases q2 : s.2.2.length ≤ 40
  ·rw [if_neg (fun z => z q1), if_neg (fun z => z q2), loop_all s.2.1.length (fun i => (s.2.1.getD i dB).2.length ≤ 40) (r := false) (by omega) ?_ ?_]
   ·rw [loop_all s.2.2.length (fun i => SmallL (s.2.2.getD i dL)) (r := false) (by omega) ?_ ?_]
    ·have e1 := forall_getD (l := s.2.1) dB (p := fun b => b.2.length ≤ 40)
     have e2 := forall_getD (l := s.2.2) dL (p := SmallL)
     by_cases z1 : ∀ i, i < s.2.1.length → (s.2.1.getD i dB).2.length ≤ 40
     ·by_cases z2 : ∀ i, i < s.2.2.length → SmallL (s.2.2.getD i dL)
      ·rw [if_pos z1, if_pos z2, decide_eq_true (show SmallT s from ⟨q1, q2, e1.1 z1, e2.1 z2⟩)]
      ·rw [if_pos z1, if_neg z2, decide_eq_false (fun z : SmallT s => z2 (e2.2 z.2.2.2))]
     ·rw [if_neg z1, decide_eq_false (fun z : SmallT s => z1 (e1.2 z.2.2.1))]
    ·intro i hi
     try dsimp only
     rw [ilt_len hi, cond_true, inb_len hi, cond_true, cond_true, get_nat, ilt_dec40, cond_dec, ilt_dec40, cond_dec, wrap_succ (by omega)]
     generalize s.2.2.getD i dL = l
     by_cases y1 : l.2.1.length ≤ 40
     ·by_cases y2 : l.2.2.length ≤ 40
      ·rw [if_neg (fun z => z y1), if_neg (fun z => z y2), loop_all l.2.1.length (fun j => (l.2.1.getD j dF).2.2.length ≤ 40) (r := .inr (.inr false)) (by omega) ?_ ?_]
       ·have e3 := forall_getD (l := l.2.1) dF (p := fun f => f.2.2.length ≤ 40)
        by_cases y3 : ∀ j, j < l.2.1.length → (l.2.1.getD j dF).2.2.length ≤ 40
        ·rw [if_pos y3, if_pos (show SmallL l from ⟨y1, y2, e3.1 y3⟩)]
        ·rw [if_neg y3, if_neg (fun z : SmallL l => y3 (e3.2 z.2.2))]
       ·intro j hj
        try dsimp only
        rw [cond_true, ilt_len hj, cond_true, cond_true, inb_len hj, cond_true, get_nat, ilt_dec40, cond_dec, wrap_succ (by omega)]
        by_cases y3 : (l.2.1.getD j dF).2.2.length ≤ 40
        ·rw [if_neg (fun z => z y3), if_pos y3]
        ·rw [if_pos y3, if_neg y3]
       ·try dsimp only
        rw [cond_true, ilt_end]; rfl
      ·rw [if_neg (fun z => z y1), if_pos y2, if_neg (fun z : SmallL l => y2 z.2.1)]
     ·rw [if_pos y1, if_neg (fun z : SmallL l => y1 z.1)]
    ·try dsimp only
     rw [ilt_end]; rfl
   ·intro i hi
    try dsimp only
    rw [ilt_len hi, cond_true, inb_len hi, cond_true, get_nat, ilt_dec40, cond_dec, wrap_succ (by omega)]
    by_cases y3 : (s.2.1.getD i dB).2.length ≤ 40
    ·rw [if_neg (fun z => z y3), if_pos y3]
    ·rw [if_pos y3, if_neg y3]
   ·try dsimp only
    rw [ilt_end]; rfl
  ·rw [if_neg (fun z => z q1), if_pos q2, decide_eq_false (fun z : SmallT s => q2 z.2.1)]
 ·rw [if_pos q1, decide_eq_false (fun z : SmallT s => q1 z.1)]
def WithinT (a b : Sta) : Prop := MayS a ∧ MayS b ∧ (a.1 = true ∨ (b.1 = false ∧ (∀ v, v ∈ a.2.1 → Within v.2 (var b.2.1 v.1)) ∧ (∀ v, v ∈ b.2.1 → Within (var a.2.1 v.1) v.2) ∧ ∀ l, l ∈ a.2.2 → (locR b.2.2 l.1).2 = true ∧ WithinO l.2 (locR b.2.2 l.1).1))
instance (a b : Sta) : Decidable (WithinT a b) := by unfold WithinT; exact inferInstance
theorem var_few {s : Sta} (h : FewT s) (n : ByteArray) : (var s.2.1 n).length ≤ 100000 := by
 unfold var getV
 cases q : s.2.1.find? fun b => decide (b.1 = n) with
 | none => simp
 | some b => exact h.2.1 b (List.mem_of_find?_eq_some q)
theorem loc_few {s : Sta} (h : FewT s) (x : At) : FewS (locR s.2.2 x).1 := by
 unfold locR getL
 cases q : s.2.2.find? fun b => decide (b.1 = x) with
 | none => exact ⟨by simp, by simp, by simp⟩
 | some b => exact h.2.2.2 b (List.mem_of_find?_eq_some q)
theorem ref_within8 (a b : Sta) (ha : FewT a) (hb : FewT b) : ref08_Within K (a, b) = some (decide (WithinT a b)) := by
 unfold ref08_Within
 try dsimp only
 obtain ⟨h1, h2, h3, h4⟩ := ha
 obtain ⟨g1, g2, g3, g4⟩ := hb
 rw [ref_may8 a ⟨h1, h2, h3, h4⟩, bind_some, cond_ndec, ref_may8 b ⟨g1, g2, g3, g4⟩, bind_some, cond_ndec]
 by_cases m1 : MayS a
 ·by_cases m2 : MayS b
  ·rw [if_pos m1, if_pos m2]
   cases da : a.1
   ·cases db : b.1
    ·rw [cond_false, cond_false, loop_all a.2.1.length (fun i => Within (a.2.1.getD i dB).2 (var b.2.1 (a.2.1.getD i dB).1)) (r := false) (by omega) ?_ ?_]
     ·rw [loop_all b.2.1.length (fun i => Within (var a.2.1 (b.2.1.getD i dB).1) (b.2.1.getD i dB).2) (r := false) (by omega) ?_ ?_]
      ·rw [loop_all a.2.2.length (fun i => (locR b.2.2 (a.2.2.getD i dL).1).2 = true ∧ WithinO (a.2.2.getD i dL).2 (locR b.2.2 (a.2.2.getD i dL).1).1) (r := false) (by omega) ?_ ?_]
       ·have e1 := forall_getD (l := a.2.1) dB (p := fun v => Within v.2 (var b.2.1 v.1))
        have e2 := forall_getD (l := b.2.1) dB (p := fun v => Within (var a.2.1 v.1) v.2)
        have e3 := forall_getD (l := a.2.2) dL (p := fun l => (locR b.2.2 l.1).2 = true ∧ WithinO l.2 (locR b.2.2 l.1).1)
        by_cases z1 : ∀ i, i < a.2.1.length → Within (a.2.1.getD i dB).2 (var b.2.1 (a.2.1.getD i dB).1)
        ·by_cases z2 : ∀ i, i < b.2.1.length → Within (var a.2.1 (b.2.1.getD i dB).1) (b.2.1.getD i dB).2
         ·by_cases z3 : ∀ i, i < a.2.2.length → (locR b.2.2 (a.2.2.getD i dL).1).2 = true ∧ WithinO (a.2.2.getD i dL).2 (locR b.2.2 (a.2.2.getD i dL).1).1
          ·rw [if_pos z1, if_pos z2, if_pos z3, decide_eq_true (show WithinT a b from ⟨m1, m2, .inr ⟨db, e1.1 z1, e2.1 z2, e3.1 z3⟩⟩)]
          ·rw [if_pos z1, if_pos z2, if_neg z3, decide_eq_false (fun z : WithinT a b => by
            rcases z.2.2 with y | y
            ·rw [da] at y; cases y
            ·exact z3 (e3.2 y.2.2.2))]
         ·rw [if_pos z1, if_neg z2, decide_eq_false (fun z : WithinT a b => by
           rcases z.2.2 with y | y
           ·rw [da] at y; cases y
           ·exact z2 (e2.2 y.2.2.1))]
        ·rw [if_neg z1, decide_eq_false (fun z : WithinT a b => by
          rcases z.2.2 with y | y
          ·rw [da] at y; cases y
          ·exact z1 (e1.2 y.2.1))]
       ·intro i hi
        try dsimp only
        have hm := getD_mem hi dL
        rw [ilt_len hi, cond_true, inb_len hi, cond_true, get_nat, ref_loc b _ (by omega), bind_some, cond_true, ref_within7 _ _ (h4 _ hm) (loc_few ⟨g1, g2, g3, g4⟩ _), bind_some, cond_ndec, wrap_succ (by omega)]
        cases q : (locR b.2.2 (a.2.2.getD i dL).1).2
        ·rw [not_false', cond_true, if_neg (fun z => by cases z.1)]
        ·rw [not_true, cond_false]
         by_cases y : WithinO (a.2.2.getD i dL).2 (locR b.2.2 (a.2.2.getD i dL).1).1
         ·rw [if_pos y, if_pos ⟨rfl, y⟩]
         ·rw [if_neg y, if_neg (fun z => y z.2)]
       ·try dsimp only
        rw [ilt_end]; rfl
      ·intro i hi
       try dsimp only
       have hm := getD_mem hi dB
       have hv := var_few ⟨h1, h2, h3, h4⟩ (b.2.1.getD i dB).1
       rw [ilt_len hi, cond_true, inb_len hi, cond_true, get_nat, ref_var a _ (by omega), bind_some, cond_true, ref_within (var a.2.1 (b.2.1.getD i dB).1) (b.2.1.getD i dB).2 (by omega) (by have := g2 _ hm; omega), bind_some, cond_ndec, wrap_succ (by omega)]
       by_cases y : Within (var a.2.1 (b.2.1.getD i dB).1) (b.2.1.getD i dB).2
       ·rw [if_pos y, if_pos y]
       ·rw [if_neg y, if_neg y]
      ·try dsimp only
       rw [ilt_end]; rfl
     ·intro i hi
      try dsimp only
      have hm := getD_mem hi dB
      have hv := var_few (s := b) ⟨g1, g2, g3, g4⟩ (a.2.1.getD i dB).1
      rw [ilt_len hi, cond_true, inb_len hi, cond_true, cond_true, get_nat, ref_var b _ (by omega), bind_some, ref_within (a.2.1.getD i dB).2 (var b.2.1 (a.2.1.getD i dB).1) (by have := h2 _ hm; omega) (by omega), bind_some, cond_ndec, wrap_succ (by omega)]
      by_cases y : Within (a.2.1.getD i dB).2 (var b.2.1 (a.2.1.getD i dB).1)
      ·rw [if_pos y, if_pos y]
      ·rw [if_neg y, if_neg y]
     ·try dsimp only
      rw [ilt_end]; rfl
    ·rw [cond_false, cond_true, decide_eq_false (fun z : WithinT a b => by
      rcases z.2.2 with y | y
      ·rw [da] at y; cases y
      ·rw [db] at y; cases y.1)]
   ·rw [cond_true, decide_eq_true (show WithinT a b from ⟨m1, m2, .inl da⟩)]
  ·rw [if_pos m1, if_neg m2, decide_eq_false (fun z : WithinT a b => m2 z.2.1)]
 ·rw [if_neg m1, decide_eq_false (fun z : WithinT a b => m1 z.1)]
end Go.PL
end
section
open Go Go.PG Go.PL
set_option linter.all false
namespace Go.PL
theorem loop_st {τ ρ σ : Type} (n : Nat) (s : Nat → τ) (s0 e : τ) {f : Int × τ → Option ((Int × τ) ⊕ (τ ⊕ ρ))} {A : τ → Option σ} {B : ρ → Option σ} (hn : n ≤ 1000000000) (h0 : s 0 = s0) (h1 : s n = e)
  (hs : ∀ i : Nat, i < n → f ((i : Int), s i) = some (.inl (((i + 1 : Nat) : Int), s (i + 1)))) (he : f ((n : Int), e) = some (.inr (.inl e))) :
  P.bind (P.iter K f (0, s0)) (P.either A B) = A e := by
 subst h0; subst h1
 exact loop_fold n s hn hs he
theorem room_one {α : Type} (l : List α) (x : α) (b : Nat) (h : l.length ≤ 1000000) (hb : b ≤ 64) : P.room (P.add (P.len l) (P.len [x])) b = true := by
 rw [len_eq, len_eq, room_nat]
 have : (l.length + [x].length) * b ≤ 1000001 * 64 := Nat.mul_le_mul (by simp; omega) hb
 omega
theorem take_len {α : Type} (l : List α) (i : Nat) (h : l.length ≤ 1000000) : (l.take i).length ≤ 1000000 := by rw [List.length_take]; omega
theorem app_take {α : Type} {l : List α} {i : Nat} (h : i < l.length) (d : α) : P.app (l.take i) [l.getD i d] = l.take (i + 1) := (take_getD' h d).symm
theorem ob_copy (o : Sp) (h : FewS o) : object_Copy K o = some o := by
 unfold object_Copy
 try dsimp only
 rw [at_clone K o.2 (by have := h.2.2; omega), bind_some, copy_run o.1 o.2 (by have := h.1; omega) _ (fun i hi => copy_step o.1 (by have := h.1; omega) h.2.1 o.2 i hi) (copy_end _ _ _), bind_some, either_inl]
theorem drop_getD' {α : Type} {l : List α} {j : Nat} (h : j < l.length) (d : α) : l.drop j = l.getD j d :: l.drop (j + 1) := by
 rw [List.drop_eq_getElem_cons h]; simp [List.getD_eq_getElem?_getD, h]
def stg (v : List At) : Prop := (norm v).length = 1 ∧ ((norm v).getD 0 dA).1 = 4
instance (v : List At) : Decidable (stg v) := by unfold stg; exact inferInstance
def hits (v : List At) (x : At) : Prop := (6, 0) ∈ norm v ∨ x ∈ norm v
instance (v : List At) (x : At) : Decidable (hits v x) := by unfold hits; exact inferInstance
theorem norm_norm (l : List At) : norm (norm l) = norm l := (canon_iff.2 (norm_canon l)).symm
theorem copy_vars {ρ σ : Type} (s : Sta) (h : FewT s) {f : Int × Sta → Option ((Int × Sta) ⊕ (Sta ⊕ ρ))} {A : Sta → Option σ} {B : ρ → Option σ}
  (hs : ∀ i : Nat, i < s.2.1.length → f ((i : Int), s.1, s.2.1.take i, []) = (P.bind (slCloneAtom K (P.get s.2.1 (i : Int) ((ByteArray.mk #[]), [])).snd) fun (r : List (Int × Int)) => P.cond (P.room (P.add (P.len (s.2.1.take i)) (P.len [((P.get s.2.1 (i : Int) ((ByteArray.mk #[]), [])).fst, r)])) 40) (some (Sum.inl (P.wrap IntKind.i64 (P.add (i : Int) (1 : Int)), s.1, P.app (s.2.1.take i) [((P.get s.2.1 (i : Int) ((ByteArray.mk #[]), [])).fst, r)], []))) none))
  (he : f ((s.2.1.length : Int), s.1, s.2.1, []) = some (.inr (.inl (s.1, s.2.1, [])))) :
  P.bind (P.iter K f (0, s.1, [], [])) (P.either A B) = A (s.1, s.2.1, []) := by
 obtain ⟨h1, h2, h3, h4⟩ := h
 refine loop_st s.2.1.length (fun i => (s.1, s.2.1.take i, [])) _ _ (by omega) (by simp) (by simp) (fun i hi => ?_) he
 have hm := getD_mem hi dB
 rw [hs i hi, get_nat, at_clone K (s.2.1.getD i dB).2 (by have := h2 _ hm; omega), bind_some, room_one _ _ 40 (take_len _ _ (by omega)) (by omega), cond_true, wrap_succ (by omega)]
 rw [show P.app (s.2.1.take i) [((s.2.1.getD i dB).1, (s.2.1.getD i dB).2)] = s.2.1.take (i + 1) from app_take hi dB]
theorem copy_locs {ρ σ : Type} (s : Sta) (h : FewT s) {f : Int × Sta → Option ((Int × Sta) ⊕ (Sta ⊕ ρ))} {A : Sta → Option σ} {B : ρ → Option σ}
  (hs : ∀ i : Nat, i < s.2.2.length → f ((i : Int), s.1, s.2.1, s.2.2.take i) = (P.bind (object_Copy K (P.get s.2.2 (i : Int) (((0 : Int), (0 : Int)), [], [])).snd) fun (r : Sp) => P.cond (P.room (P.add (P.len (s.2.2.take i)) (P.len [((P.get s.2.2 (i : Int) (((0 : Int), (0 : Int)), [], [])).fst, r)])) 64) (some (Sum.inl (P.wrap IntKind.i64 (P.add (i : Int) (1 : Int)), s.1, s.2.1, P.app (s.2.2.take i) [((P.get s.2.2 (i : Int) (((0 : Int), (0 : Int)), [], [])).fst, r)]))) none))
  (he : f ((s.2.2.length : Int), s.1, s.2.1, s.2.2) = some (.inr (.inl (s.1, s.2.1, s.2.2)))) :
  P.bind (P.iter K f (0, s.1, s.2.1, [])) (P.either A B) = A (s.1, s.2.1, s.2.2) := by
 obtain ⟨h1, h2, h3, h4⟩ := h
 refine loop_st s.2.2.length (fun i => (s.1, s.2.1, s.2.2.take i)) _ _ (by omega) (by simp) (by simp) (fun i hi => ?_) he
 have hm := getD_mem hi dL
 rw [hs i hi, get_nat, ob_copy (s.2.2.getD i dL).2 (h4 _ hm), bind_some, room_one _ _ 64 (take_len _ _ (by omega)) (by omega), cond_true, wrap_succ (by omega)]
 rw [show P.app (s.2.2.take i) [((s.2.2.getD i dL).1, (s.2.2.getD i dL).2)] = s.2.2.take (i + 1) from app_take hi dL]
theorem get_dL (l : List Lc) (i : Nat) : P.get l (i : Int) (((0 : Int), (0 : Int)), [], []) = l.getD i dL := get_nat _ _ _
theorem get_dB (l : List Bv) (i : Nat) : P.get l (i : Int) ((ByteArray.mk #[]), []) = l.getD i dB := get_nat _ _ _
end Go.PL
end
section
open Go Go.PG Go.PL
set_option linter.all false
namespace Go.PL
def BdT (k : Nat) (s : Sta) : Prop := s.2.1.length ≤ k ∧ (∀ b, b ∈ s.2.1 → b.2.length ≤ k) ∧ s.2.2.length ≤ k ∧ ∀ l, l ∈ s.2.2 → Bd k l.2
theorem small_bdT {s : Sta} (h : SmallT s) : BdT 40 s := ⟨h.1, h.2.2.1, h.2.1, fun l hl => ⟨(h.2.2.2 l hl).1, (h.2.2.2 l hl).2.2, (h.2.2.2 l hl).2.1⟩⟩
theorem bd_fewT {s : Sta} {k : Nat} (h : BdT k s) (hk : k ≤ 100000) : FewT s := ⟨Nat.le_trans h.1 hk, fun b hb => Nat.le_trans (h.2.1 b hb) hk, Nat.le_trans h.2.2.1 hk, fun l hl => bd_few (h.2.2.2 l hl) hk⟩
end Go.PL
end
section
open Go Go.PG Go.PL
set_option linter.all false
namespace Go.PL
theorem getL_mem {l : List Lc} {x : At} {b : Lc} (h : getL l x = some b) : b ∈ l ∧ b.1 = x := ⟨List.mem_of_find?_eq_some h, of_decide_eq_true (by have := List.find?_some h; exact this)⟩
end Go.PL
end
section
open Go Go.PG Go.PL
set_option linter.all false
namespace Go.PL
theorem getV_mem {l : List Bv} {n : ByteArray} {b : Bv} (h : getV l n = some b) : b ∈ l ∧ b.1 = n := ⟨List.mem_of_find?_eq_some h, of_decide_eq_true (by have := List.find?_some h; exact this)⟩
theorem getV_none {l : List Bv} {n : ByteArray} (h : getV l n = none) {f : Bv} (hf : f ∈ l) : f.1 ≠ n := by
 unfold getV at h
 rw [List.find?_eq_none] at h
 intro e
 exact h f hf (decide_eq_true e)
theorem risesB_inj {l : List Bv} (h : RisesB l) {f g : Bv} (hf : f ∈ l) (hg : g ∈ l) (e : f.1 = g.1) : f = g := by
 induction l with
 | nil => cases hf
 | cons a l ih =>
  obtain ⟨h1, h2⟩ := List.pairwise_cons.1 h
  rcases List.mem_cons.1 hf with rfl | hf'
  ·rcases List.mem_cons.1 hg with rfl | hg'
   ·rfl
   ·exact absurd (h1 g hg') (by rw [e]; exact ltS_irrefl _)
  ·rcases List.mem_cons.1 hg with rfl | hg'
   ·exact absurd (h1 f hf') (by rw [e]; exact ltS_irrefl _)
   ·exact ih h2 hf' hg'
theorem getV_of_mem {l : List Bv} (h : RisesB l) {f : Bv} (hf : f ∈ l) : getV l f.1 = some f := by
 cases q : getV l f.1 with
 | none => exact absurd rfl (getV_none q hf)
 | some g => rw [risesB_inj h (getV_mem q).1 hf (getV_mem q).2]
end Go.PL
end
section
open Go Go.PG Go.PL
set_option linter.all false
namespace Go.PL
structure Ord {κ : Type} (lt : κ → κ → Prop) : Prop where
 irr : ∀ a, ¬ lt a a
 tr : ∀ {a b c}, lt a b → lt b c → lt a c
 tri : ∀ a b, lt a b ∨ a = b ∨ lt b a
theorem ordS : Ord ltS := ⟨ltS_irrefl, ltS_trans, ltS_tri⟩
theorem ordA : Ord ltA := ⟨ltA_irrefl, ltA_trans, ltA_tri⟩
section
variable {α κ : Type} {lt : κ → κ → Prop} [DecidableRel lt] {key : α → κ}
abbrev Up (lt : κ → κ → Prop) (key : α → κ) (l : List α) : Prop := l.Pairwise fun a b => lt (key a) (key b)
def insK (lt : κ → κ → Prop) [DecidableRel lt] (key : α → κ) (l : List α) (x : α) : List α := l.filter (fun a => decide (lt (key a) (key x))) ++ x :: l.filter (fun a => decide (lt (key x) (key a)))
theorem insK_mem (O : Ord lt) {l : List α} {x a : α} : a ∈ insK lt key l x ↔ a = x ∨ (a ∈ l ∧ key a ≠ key x) := by
 unfold insK
 simp only [List.mem_append, List.mem_cons, List.mem_filter, decide_eq_true_eq]
 constructor
 ·rintro (⟨h1, h2⟩ | rfl | ⟨h1, h2⟩)
  ·exact .inr ⟨h1, fun e => O.irr (key x) (by rw [e] at h2; exact h2)⟩
  ·exact .inl rfl
  ·exact .inr ⟨h1, fun e => O.irr (key x) (by rw [e] at h2; exact h2)⟩
 ·rintro (rfl | ⟨h1, h2⟩)
  ·exact .inr (.inl rfl)
  ·rcases O.tri (key a) (key x) with h | h | h
   ·exact .inl ⟨h1, h⟩
   ·exact absurd h h2
   ·exact .inr (.inr ⟨h1, h⟩)
theorem insK_up (O : Ord lt) {l : List α} (h : Up lt key l) (x : α) : Up lt key (insK lt key l x) := by
 unfold insK Up
 rw [List.pairwise_append, List.pairwise_cons]
 refine ⟨h.filter _, ⟨fun b hb => ?_, h.filter _⟩, fun a ha b hb => ?_⟩
 ·exact of_decide_eq_true (List.mem_filter.1 hb).2
 ·have h1 := of_decide_eq_true (List.mem_filter.1 ha).2
  rcases List.mem_cons.1 hb with rfl | hb
  ·exact h1
  ·exact O.tr h1 (of_decide_eq_true (List.mem_filter.1 hb).2)
theorem insK_length (l : List α) (x : α) : (insK lt key l x).length ≤ l.length + l.length + 1 := by
 unfold insK
 have h1 := List.length_filter_le (fun a => decide (lt (key a) (key x))) l
 have h2 := List.length_filter_le (fun a => decide (lt (key x) (key a))) l
 simp only [List.length_append, List.length_cons]
 omega
theorem insK_end (O : Ord lt) {l : List α} {x : α} (h : ∀ a, a ∈ l → lt (key a) (key x)) : insK lt key l x = l ++ [x] := by
 unfold insK
 rw [List.filter_eq_self.2 fun a ha => decide_eq_true (h a ha), List.filter_eq_nil_iff.2 fun a ha q => O.irr _ (O.tr (h a ha) (of_decide_eq_true q))]
theorem split_at (O : Ord lt) {l : List α} (hu : Up lt key l) (d x : α) (m : Nat) (hm : m ≤ l.length) (h1 : ∀ i, i < m → lt (key (l.getD i d)) (key x)) (h2 : m < l.length → ¬ lt (key (l.getD m d)) (key x)) :
  l.take m = l.filter (fun a => decide (lt (key a) (key x))) ∧
  (m < l.length → key (l.getD m d) = key x → l.drop (m + 1) = l.filter (fun a => decide (lt (key x) (key a)))) ∧
  ((m < l.length → key (l.getD m d) ≠ key x) → l.drop m = l.filter (fun a => decide (lt (key x) (key a)))) := by
 have ht : ∀ a, a ∈ l.take m → lt (key a) (key x) := fun a ha => by
  obtain ⟨i, hi, rfl⟩ := List.getElem_of_mem ha
  rw [List.length_take] at hi
  have := h1 i (by omega)
  rw [List.getElem_take]
  simpa [List.getD_eq_getElem?_getD, show i < l.length by omega] using this
 have hp : ∀ a b, a ∈ l.take m → b ∈ l.drop m → lt (key a) (key b) := fun a b ha hb => by
  have : Up lt key (l.take m ++ l.drop m) := by rw [List.take_append_drop]; exact hu
  exact (List.pairwise_append.1 this).2.2 a ha b hb
 have hd : ∀ a, a ∈ l.drop m → ¬ lt (key a) (key x) := fun a ha => by
  have hlt : m < l.length := by
   apply Classical.byContradiction
   intro q
   rw [List.drop_eq_nil_of_le (by omega)] at ha
   cases ha
  rw [drop_getD' hlt d] at ha
  have hud : Up lt key (l.getD m d :: l.drop (m + 1)) := by rw [← drop_getD' hlt d]; exact hu.sublist (List.drop_sublist _ _)
  rcases List.mem_cons.1 ha with rfl | ha
  ·exact h2 hlt
  ·intro q
   exact h2 hlt (O.tr ((List.pairwise_cons.1 hud).1 a ha) q)
 have e : ∀ p : α → Bool, l.filter p = (l.take m).filter p ++ (l.drop m).filter p := fun p => by rw [← List.filter_append, List.take_append_drop]
 refine ⟨?_, fun hlt hk => ?_, fun hk => ?_⟩
 ·rw [e, List.filter_eq_self.2 fun a ha => decide_eq_true (ht a ha), List.filter_eq_nil_iff.2 fun a ha q => hd a ha (of_decide_eq_true q), List.append_nil]
 ·have hud : Up lt key (l.getD m d :: l.drop (m + 1)) := by rw [← drop_getD' hlt d]; exact hu.sublist (List.drop_sublist _ _)
  rw [e, List.filter_eq_nil_iff.2 fun a ha q => O.irr _ (O.tr (ht a ha) (of_decide_eq_true q)), List.nil_append, drop_getD' hlt d, List.filter_cons_of_neg (by
   rw [decide_eq_true_eq, hk]; exact O.irr _), List.filter_eq_self.2 fun a ha => decide_eq_true (by rw [← hk]; exact (List.pairwise_cons.1 hud).1 a ha)]
 ·rw [e, List.filter_eq_nil_iff.2 fun a ha q => O.irr _ (O.tr (ht a ha) (of_decide_eq_true q)), List.nil_append]
  refine (List.filter_eq_self.2 fun a ha => decide_eq_true ?_).symm
  rcases O.tri (key x) (key a) with q | q | q
  ·exact q
  ·exfalso
   have hlt : m < l.length := by
    apply Classical.byContradiction
    intro z
    rw [List.drop_eq_nil_of_le (by omega)] at ha
    cases ha
   rw [drop_getD' hlt d] at ha
   have hud : Up lt key (l.getD m d :: l.drop (m + 1)) := by rw [← drop_getD' hlt d]; exact hu.sublist (List.drop_sublist _ _)
   rcases List.mem_cons.1 ha with rfl | ha
   ·exact hk hlt q.symm
   ·have := (List.pairwise_cons.1 hud).1 a ha
    rw [← q] at this
    exact h2 hlt this
  ·exact absurd q (hd a ha)
def fstK (lt : κ → κ → Prop) [DecidableRel lt] (key : α → κ) (l : List α) (x : κ) : Nat := (l.takeWhile fun a => decide (lt (key a) x)).length
theorem fstK_le (l : List α) (x : κ) : fstK lt key l x ≤ l.length := (List.takeWhile_sublist _).length_le
theorem fstK_lt (d : α) : ∀ (l : List α) (x : κ) (i : Nat), i < fstK lt key l x → lt (key (l.getD i d)) x := by
 intro l
 induction l with
 | nil => intro x i hi; simp [fstK] at hi
 | cons a l ih =>
  intro x i hi
  unfold fstK at hi
  by_cases q : lt (key a) x
  ·rw [List.takeWhile_cons, if_pos (decide_eq_true q)] at hi
   cases i with
   | zero => simpa using q
   | succ i => simpa using ih x i (by simpa [fstK] using hi)
  ·rw [List.takeWhile_cons, if_neg (by simpa using q)] at hi
   simp at hi
theorem fstK_at (d : α) : ∀ (l : List α) (x : κ), fstK lt key l x < l.length → ¬ lt (key (l.getD (fstK lt key l x) d)) x := by
 intro l
 induction l with
 | nil => intro x hi; simp at hi
 | cons a l ih =>
  intro x hi
  by_cases q : lt (key a) x
  ·have e : fstK lt key (a :: l) x = fstK lt key l x + 1 := by unfold fstK; rw [List.takeWhile_cons, if_pos (decide_eq_true q)]; rfl
   rw [e] at hi ⊢
   simpa using ih x (by simpa using hi)
  ·have e : fstK lt key (a :: l) x = 0 := by unfold fstK; rw [List.takeWhile_cons, if_neg (by simpa using q)]; rfl
   rw [e]
   simpa using q
def refK (lt : κ → κ → Prop) [DecidableRel lt] (key : α → κ) (t : List α) (x : α) : Bool × List α := if ∀ a, a ∈ t → lt (key a) (key x) then (false, t) else (true, insK lt key t x)
theorem refK_step (O : Ord lt) {t : List α} {y : α} (hu : Up lt key (t ++ [y])) (x : α) :
  (lt (key y) (key x) → (∀ a, a ∈ t → lt (key a) (key x)) ∧ refK lt key (t ++ [y]) x = (false, t ++ [y])) ∧
  (¬ lt (key y) (key x) → (∀ a, a ∈ t → lt (key a) (key x)) → (key y = key x → refK lt key (t ++ [y]) x = (true, t ++ [x])) ∧ (key y ≠ key x → refK lt key (t ++ [y]) x = (true, t ++ [x] ++ [y]))) ∧
  (¬ (∀ a, a ∈ t → lt (key a) (key x)) → key y ≠ key x ∧ refK lt key (t ++ [y]) x = (true, insK lt key t x ++ [y])) := by
 have hp := (List.pairwise_append.1 hu).2.2
 refine ⟨fun h => ?_, fun h h2 => ?_, fun h => ?_⟩
 ·have ha : ∀ a, a ∈ t → lt (key a) (key x) := fun a ha => O.tr (hp a ha y (by simp)) h
  exact ⟨ha, by
   unfold refK
   rw [if_pos fun a q => ?_]
   rcases List.mem_append.1 q with q | q
   ·exact ha a q
   ·rw [List.mem_singleton] at q; subst q; exact h⟩
 ·have e1 : refK lt key (t ++ [y]) x = (true, insK lt key (t ++ [y]) x) := by unfold refK; rw [if_neg fun q => h (q y (by simp))]
  have e2 : (t ++ [y]).filter (fun a => decide (lt (key a) (key x))) = t := by
   rw [List.filter_append, List.filter_eq_self.2 fun a ha => decide_eq_true (h2 a ha), List.filter_cons_of_neg (by simpa using h)]; simp
  have e3 : t.filter (fun a => decide (lt (key x) (key a))) = [] := List.filter_eq_nil_iff.2 fun a ha q => O.irr _ (O.tr (h2 a ha) (of_decide_eq_true q))
  refine ⟨fun q => ?_, fun q => ?_⟩
  ·rw [e1, insK, e2, List.filter_append, e3, List.filter_cons_of_neg (by rw [decide_eq_true_eq, q]; exact O.irr _)]; simp
  ·rw [e1, insK, e2, List.filter_append, e3, List.filter_cons_of_pos (by
    rw [decide_eq_true_eq]
    rcases O.tri (key x) (key y) with z | z | z
    ·exact z
    ·exact absurd z.symm q
    ·exact absurd z h)]
   simp
 ·have hy : lt (key x) (key y) := by
   apply Classical.byContradiction
   intro q
   refine h fun a ha => ?_
   have := hp a ha y (by simp)
   rcases O.tri (key x) (key y) with z | z | z
   ·exact absurd z q
   ·rw [z]; exact this
   ·exact O.tr this z
  refine ⟨fun e => O.irr (key x) (by rw [e] at hy; exact hy), ?_⟩
  unfold refK
  rw [if_neg fun q => h fun a ha => q a (by simp [ha])]
  congr 1
  unfold insK
  rw [List.filter_append, List.filter_append, List.filter_cons_of_neg (by rw [decide_eq_true_eq]; exact fun z => O.irr _ (O.tr hy z)), List.filter_cons_of_pos (by rw [decide_eq_true_eq]; exact hy)]
  simp
theorem refK_end (O : Ord lt) {l : List α} (x : α) : (if (refK lt key l x).1 then (refK lt key l x).2 else (refK lt key l x).2 ++ [x]) = insK lt key l x := by
 unfold refK
 by_cases h : ∀ a, a ∈ l → lt (key a) (key x)
 ·rw [if_pos h]; simp [insK_end O h]
 ·rw [if_neg h]; simp
end
instance : DecidableRel ltA := fun a b => by unfold ltA; exact inferInstance
theorem loop_first {ρ σ : Type} (m : Nat) (r : Unit ⊕ ρ) {f : Int → Option (Int ⊕ (Unit ⊕ ρ))} {A : Unit → Option σ} {B : ρ → Option σ} (hm : m ≤ 1000000000)
  (hs : ∀ i : Nat, i < m → f (i : Int) = some (.inl ((i + 1 : Nat) : Int))) (he : f (m : Int) = some (.inr r)) : P.bind (P.iter K f 0) (P.either A B) = P.either A B r := by
 have := iter_run (f := f) (fun i => (i : Int)) r m 0 K (by unfold K; omega) (fun j hj => by simp only [Nat.zero_add]; exact hs j hj) (by simpa using he)
 rw [show ((0 : Nat) : Int) = 0 from rfl] at this
 rw [this, bind_some]
end Go.PL
end
section
open Go Go.PG Go.PL
set_option linter.all false
namespace Go.PL
abbrev insB (l : List Bv) (x : Bv) : List Bv := insK ltS (fun b : Bv => b.1) l x
abbrev insL (l : List Lc) (x : Lc) : List Lc := insK ltA (fun b : Lc => b.1) l x
abbrev kB (l : List Bv) (n : ByteArray) : Nat := fstK ltS (fun b : Bv => b.1) l n
def setT (s : Sta) (n : ByteArray) (v : List At) : Sta := if MayS s then (if s.1 = true then (true, [], []) else (s.1, insB s.2.1 (n, norm v), s.2.2)) else (false, [], [])
def putT (s : Sta) (x : At) (o : Sp) : Sta := if MayS s then (if PlaceA x then (if MayO o then (if s.1 = true then (true, [], []) else (s.1, s.2.1, insL s.2.2 (x, o))) else (false, [], [])) else (false, [], [])) else (false, [], [])
theorem cond_of {α : Type} {b : Bool} (h : b = true) (x y : α) : P.cond b x y = x := by rw [h]; rfl
theorem cond_of' {α : Type} {b : Bool} (h : ¬ b = true) (x y : α) : P.cond b x y = y := by
 cases b with
 | false => rfl
 | true => exact absurd rfl h
theorem delAt_one {α : Type} (l : List α) (m : Nat) : P.delAt l (m : Int) ((m + 1 : Nat) : Int) = l.take m ++ l.drop (m + 1) := rfl
theorem delAt_len {α : Type} {l : List α} {m : Nat} (h : m < l.length) : (P.delAt l (m : Int) ((m + 1 : Nat) : Int)).length = l.length - 1 := by
 rw [delAt_one]; simp; omega
theorem del_ins {α : Type} {l : List α} {m : Nat} (h : m < l.length) (x : α) : P.insAt (P.delAt l (m : Int) ((m + 1 : Nat) : Int)) (m : Int) [x] = l.take m ++ x :: l.drop (m + 1) := by
 rw [delAt_one]
 have hl : (l.take m).length = m := by rw [List.length_take]; omega
 unfold P.insAt
 rw [Int.toNat_natCast, List.take_left' hl, List.drop_left' hl]
 simp
theorem ins_at {α : Type} (l : List α) (m : Nat) (x : α) : P.insAt l (m : Int) [x] = l.take m ++ x :: l.drop m := by
 unfold P.insAt
 rw [Int.toNat_natCast]
 simp
theorem map_some' {α β : Type} (f : α → β) (x : α) : P.map f (some x) = some (f x) := rfl
theorem lt_one {α : Type} (x : α) : P.ilt (0 : Int) (P.len [x]) = true := rfl
theorem st_set (s : Sta) (n : ByteArray) (v : List At) (h : FewT s) (hv : v.length ≤ 1000000) : state_Set K (s, n, v) = some (setT s n v) := by
 unfold state_Set setT
 try dsimp only
 rw [st_may s h, bind_some, cond_ndec]
 by_cases m : MayS s
 ·rw [if_pos m, if_pos m]
  by_cases hd : s.1 = true
  ·rw [if_pos hd, cond_of hd]
  ·rw [if_neg hd, cond_of' hd, copy_vars s h ?_ ?_]
   ·rw [copy_locs s h ?_ ?_]
    ·try dsimp only
     have h1 := h.1
     have hkl := fstK_le (lt := ltS) (key := fun b : Bv => b.1) s.2.1 n
     have hlo := fstK_lt (lt := ltS) (key := fun b : Bv => b.1) dB s.2.1 n
     have hat := fstK_at (lt := ltS) (key := fun b : Bv => b.1) dB s.2.1 n
     generalize fstK ltS (fun b : Bv => b.1) s.2.1 n = j at hkl hlo hat
     obtain ⟨q1, q2, q3⟩ := split_at ordS (key := fun b : Bv => b.1) m.1.1 dB (n, norm v) j hkl hlo hat
     have hstep : ∀ i : Nat, i < j → i < s.2.1.length := fun i hi => by omega
     by_cases hl : j < s.2.1.length
     ·rw [loop_first j (.inr (s.1, insB s.2.1 (n, norm v), s.2.2)) (by omega) ?_ ?_]
      ·rw [either_inr]
      ·intro i hi
       have hi2 := hstep i hi
       try dsimp only
       rw [ilt_len hi2, cond_true, inb_len hi2, cond_true, get_dB, slt_dec, cond_ndec, if_pos (hlo i hi), wrap_succ (by omega)]
      ·try dsimp only
       rw [ilt_len hl, cond_true, inb_len hl, cond_true, get_dB, slt_dec, cond_ndec, if_neg (hat hl), show P.ile (0 : Int) (j : Int) = true from ile_iff.2 (by omega), cond_true, cond_true, cond_true, seq_dec, cond_dec, at_norm' v (by omega), bind_some, bind_some, lt_one, cond_true, cond_true, wrap_succ (by omega)]
       by_cases e : (s.2.1.getD j dB).1 = n
       ·rw [if_pos e, show P.cut (j : Int) ((j + 1 : Nat) : Int) (P.len s.2.1) = true from cut_iff.2 (by rw [len_eq]; omega), cond_true, show P.cut (0 : Int) (j : Int) (P.len (P.delAt s.2.1 (j : Int) ((j + 1 : Nat) : Int))) = true from cut_iff.2 (by rw [len_eq, delAt_len hl]; omega), cond_true,
         room_one _ _ 40 (by rw [delAt_len hl]; omega) (by omega), cond_true, map_some', del_ins hl, q1, q2 hl e]
        rfl
       ·rw [if_neg e, show P.cut (0 : Int) (j : Int) (P.len s.2.1) = true from cut_iff.2 (by rw [len_eq]; omega), cond_true, room_one _ _ 40 (by omega) (by omega), cond_true, map_some', ins_at, q1, q3 (fun _ => e)]
        rfl
     ·have hj : j = s.2.1.length := by omega
      subst hj
      rw [loop_first s.2.1.length (.inl ()) (by omega) ?_ ?_]
      ·rw [either_inl, show P.ile (0 : Int) (-1 : Int) = false from rfl, cond_false, show P.ilt (P.len s.2.1) (P.len s.2.1) = false from by rw [Bool.eq_false_iff, Ne, ilt_iff]; omega, cond_false, at_norm' v (by omega), bind_some, lt_one, cond_true, show P.cut (0 : Int) (P.len s.2.1) (P.len s.2.1) = true from cut_iff.2 (by rw [len_eq]; omega), cond_true,
        room_one _ _ 40 (by omega) (by omega), cond_true, len_eq, ins_at, q1, q3 (fun z => absurd z (by omega))]
       rfl
      ·intro i hi
       have hi2 := hstep i hi
       try dsimp only
       rw [ilt_len hi2, cond_true, inb_len hi2, cond_true, get_dB, slt_dec, cond_ndec, if_pos (hlo i hi), wrap_succ (by omega)]
      ·try dsimp only
       rw [ilt_end, cond_false]
    ·intro i hi
     try dsimp only
     rw [ilt_len hi, cond_true, inb_len hi, cond_true]
    ·try dsimp only
     rw [ilt_end]; rfl
   ·intro i hi
    try dsimp only
    rw [ilt_len hi, cond_true, inb_len hi, cond_true]
   ·try dsimp only
    rw [ilt_end]; rfl
 ·rw [if_neg m, if_neg m]
theorem st_put (s : Sta) (x : At) (o : Sp) (h : FewT s) (ho : FewS o) : state_Put K (s, x, o) = some (putT s x o) := by
 unfold state_Put putT
 try dsimp only
 rw [st_may s h, bind_some, cond_ndec]
 by_cases m : MayS s
 ·rw [if_pos m, if_pos m, st_place, bind_some, cond_ndec]
  by_cases mp : PlaceA x
  ·rw [if_pos mp, if_pos mp, ob_may o ho, bind_some, cond_ndec]
   by_cases mo : MayO o
   ·rw [if_pos mo, if_pos mo]
    by_cases hd : s.1 = true
    ·rw [if_pos hd, cond_of hd]
    ·rw [if_neg hd, cond_of' hd, copy_vars s h ?_ ?_]
     ·rw [copy_locs s h ?_ ?_]
      ·try dsimp only
       have h1 := h.2.2.1
       have hkl := fstK_le (lt := ltA) (key := fun b : Lc => b.1) s.2.2 x
       have hlo := fstK_lt (lt := ltA) (key := fun b : Lc => b.1) dL s.2.2 x
       have hat := fstK_at (lt := ltA) (key := fun b : Lc => b.1) dL s.2.2 x
       generalize fstK ltA (fun b : Lc => b.1) s.2.2 x = j at hkl hlo hat
       obtain ⟨q1, q2, q3⟩ := split_at ordA (key := fun b : Lc => b.1) m.2.1.1 dL (x, o) j hkl hlo hat
       have hstep : ∀ i : Nat, i < j → i < s.2.2.length := fun i hi => by omega
       by_cases hl : j < s.2.2.length
       ·rw [loop_first j (.inr (s.1, s.2.1, insL s.2.2 (x, o))) (by omega) ?_ ?_]
        ·rw [either_inr]
        ·intro i hi
         have hi2 := hstep i hi
         obtain ⟨r, hr, hlt⟩ := at_compare (s.2.2.getD i dL).1 x
         try dsimp only
         rw [ilt_len hi2, cond_true, inb_len hi2, cond_true, get_dL, hr, bind_some, show P.ile (0 : Int) r = false from by rw [Bool.eq_false_iff, Ne, ile_iff]; exact fun z => hlt.1 z (hlo i hi), cond_false, wrap_succ (by omega)]
        ·obtain ⟨r, hr, hlt⟩ := at_compare (s.2.2.getD j dL).1 x
         try dsimp only
         rw [ilt_len hl, cond_true, inb_len hl, cond_true, get_dL, hr, bind_some, show P.ile (0 : Int) r = true from ile_iff.2 (hlt.2 (hat hl)), cond_true, show P.ile (0 : Int) (j : Int) = true from ile_iff.2 (by omega), cond_true, cond_true, cond_true, eqA_dec, cond_dec, ob_copy o ho, bind_some, bind_some, lt_one, cond_true, cond_true, wrap_succ (by omega)]
         by_cases e : (s.2.2.getD j dL).1 = x
         ·rw [if_pos e, show P.cut (j : Int) ((j + 1 : Nat) : Int) (P.len s.2.2) = true from cut_iff.2 (by rw [len_eq]; omega), cond_true, show P.cut (0 : Int) (j : Int) (P.len (P.delAt s.2.2 (j : Int) ((j + 1 : Nat) : Int))) = true from cut_iff.2 (by rw [len_eq, delAt_len hl]; omega), cond_true,
           room_one _ _ 64 (by rw [delAt_len hl]; omega) (by omega), cond_true, map_some', del_ins hl, q1, q2 hl e]
          rfl
         ·rw [if_neg e, show P.cut (0 : Int) (j : Int) (P.len s.2.2) = true from cut_iff.2 (by rw [len_eq]; omega), cond_true, room_one _ _ 64 (by omega) (by omega), cond_true, map_some', ins_at, q1, q3 (fun _ => e)]
          rfl
       ·have hj : j = s.2.2.length := by omega
        subst hj
        rw [loop_first s.2.2.length (.inl ()) (by omega) ?_ ?_]
        ·rw [either_inl, show P.ile (0 : Int) (-1 : Int) = false from rfl, cond_false, show P.ilt (P.len s.2.2) (P.len s.2.2) = false from by rw [Bool.eq_false_iff, Ne, ilt_iff]; omega, cond_false, ob_copy o ho, bind_some, lt_one, cond_true, show P.cut (0 : Int) (P.len s.2.2) (P.len s.2.2) = true from cut_iff.2 (by rw [len_eq]; omega), cond_true,
          room_one _ _ 64 (by omega) (by omega), cond_true, len_eq, ins_at, q1, q3 (fun z => absurd z (by omega))]
         rfl
        ·intro i hi
         have hi2 := hstep i hi
         obtain ⟨r, hr, hlt⟩ := at_compare (s.2.2.getD i dL).1 x
         try dsimp only
         rw [ilt_len hi2, cond_true, inb_len hi2, cond_true, get_dL, hr, bind_some, show P.ile (0 : Int) r = false from by rw [Bool.eq_false_iff, Ne, ile_iff]; exact fun z => hlt.1 z (hlo i hi), cond_false, wrap_succ (by omega)]
        ·try dsimp only
         rw [ilt_end, cond_false]
      ·intro i hi
       try dsimp only
       rw [ilt_len hi, cond_true, inb_len hi, cond_true]
      ·try dsimp only
       rw [ilt_end]; rfl
     ·intro i hi
      try dsimp only
      rw [ilt_len hi, cond_true, inb_len hi, cond_true]
     ·try dsimp only
      rw [ilt_end]; rfl
   ·rw [if_neg mo, if_neg mo]
  ·rw [if_neg mp, if_neg mp]
 ·rw [if_neg m, if_neg m]
end Go.PL
end
section
open Go Go.PG Go.PL
set_option linter.all false
namespace Go.PL
theorem loop_gen {τ ε ρ σ : Type} (n : Nat) (s : Nat → τ) (s0 : τ) (e : ε) {f : τ → Option (τ ⊕ (ε ⊕ ρ))} {A : ε → Option σ} {B : ρ → Option σ} (hn : n ≤ 1000000000) (h0 : s 0 = s0)
  (hs : ∀ i : Nat, i < n → f (s i) = some (.inl (s (i + 1)))) (he : f (s n) = some (.inr (.inl e))) :
  P.bind (P.iter K f s0) (P.either A B) = A e := by
 have := iter_run (f := f) s (.inl e) n 0 K (by unfold K; omega) (fun j hj => by simp only [Nat.zero_add]; exact hs j hj) (by simpa using he)
 rw [h0] at this
 rw [this, bind_some, either_inl]
theorem sle_not (a b : ByteArray) : P.sle a b = decide (¬ ltS b a) := by
 rw [Bool.eq_iff_iff, sle_iff, decide_eq_true_eq]
 constructor
 ·rintro (h | rfl)
  ·exact ltS_asymm h
  ·exact ltS_irrefl _
 ·intro h
  rcases ltS_tri a b with q | q | q
  ·exact .inl q
  ·exact .inr q
  ·exact absurd q h
theorem refK_nil {α κ : Type} {lt : κ → κ → Prop} [DecidableRel lt] {key : α → κ} (x : α) : refK lt key [] x = (false, []) := by
 unfold refK; rw [if_pos (by simp)]
theorem refK_len {α κ : Type} {lt : κ → κ → Prop} [DecidableRel lt] {key : α → κ} (t : List α) (x : α) : (refK lt key t x).2.length ≤ t.length + t.length + 1 := by
 unfold refK
 split
 ·show t.length ≤ _; omega
 ·exact insK_length t x
theorem app_eq {α : Type} (a b : List α) : P.app a b = a ++ b := rfl
theorem up_take {α κ : Type} {lt : κ → κ → Prop} {key : α → κ} {l : List α} (h : Up lt key l) {i : Nat} (hi : i < l.length) (d : α) : Up lt key (l.take i ++ [l.getD i d]) := by
 rw [← take_getD' hi d]; exact h.sublist (List.take_sublist _ _)
theorem ref_set (s : Sta) (n : ByteArray) (v : List At) (h : FewT s) (hv : v.length ≤ 1000000) : ref08_Set K (s, n, v) = some (setT s n v) := by
 unfold ref08_Set setT
 try dsimp only
 rw [ref_may8 s h, bind_some, cond_ndec]
 by_cases m : MayS s
 ·rw [if_pos m, if_pos m]
  by_cases hd : s.1 = true
  ·rw [if_pos hd, cond_of hd]
   obtain ⟨e1, e2⟩ := m.2.2 hd
   congr 1
   exact Prod.ext hd (Prod.ext e1 e2)
  ·rw [if_neg hd, cond_of' hd, ref_norm v (by omega), bind_some]
   have h1 := h.1
   have hu : Up ltS (fun b : Bv => b.1) s.2.1 := m.1.1
   have hs1 : s.1 = false := by simpa using hd
   rw [loop_gen s.2.1.length (fun i => ((refK ltS (fun b : Bv => b.1) (s.2.1.take i) (n, norm v)).1, (i : Int), false, (refK ltS (fun b : Bv => b.1) (s.2.1.take i) (n, norm v)).2, s.2.2)) _ ((refK ltS (fun b : Bv => b.1) s.2.1 (n, norm v)).1, false, (refK ltS (fun b : Bv => b.1) s.2.1 (n, norm v)).2, s.2.2) (by omega) ?_ ?_ ?_]
   ·have hE := refK_end (lt := ltS) (key := fun b : Bv => b.1) ordS (l := s.2.1) (n, norm v)
    have hL := refK_len (lt := ltS) (key := fun b : Bv => b.1) s.2.1 (n, norm v)
    try dsimp only
    rw [show insB s.2.1 (n, norm v) = _ from hE.symm, hs1]
    generalize refK ltS (fun b : Bv => b.1) s.2.1 (n, norm v) = R at hL
    obtain ⟨b, t⟩ := R
    cases b
    ·rw [not_false', cond_true, room_one _ _ 40 (by simp only at hL ⊢; omega) (by omega), cond_true]; rfl
    ·rw [not_true, cond_false]; rfl
   ·show ((refK ltS (fun b : Bv => b.1) [] (n, norm v)).1, _, _, (refK ltS (fun b : Bv => b.1) [] (n, norm v)).2, _) = _
    rw [refK_nil]; rfl
   ·intro i hi
    have hui := up_take hu hi dB
    have e1 := take_getD' hi dB
    obtain ⟨t1, t2, t3⟩ := refK_step ordS hui (n, norm v)
    have htl : (s.2.1.take i).length ≤ 100000 := by rw [List.length_take]; omega
    have hL := refK_len (lt := ltS) (key := fun b : Bv => b.1) (s.2.1.take i) (n, norm v)
    try dsimp only
    rw [ilt_len hi, cond_true, inb_len hi, e1, wrap_succ (by omega)]
    simp only [cond_true, get_dB, sle_not, seq_dec]
    by_cases all : ∀ a, a ∈ s.2.1.take i → ltS a.1 n
    ·have r0 : refK ltS (fun b : Bv => b.1) (s.2.1.take i) (n, norm v) = (false, s.2.1.take i) := by unfold refK; rw [if_pos all]
     rw [r0]
     simp only [not_false', cond_true]
     rw [cond_dec]
     by_cases hy : ltS (s.2.1.getD i dB).1 n
     ·rw [if_neg (fun z => z hy), cond_ndec, if_neg (fun e : (s.2.1.getD i dB).1 = n => ltS_irrefl n (by rw [e] at hy; exact hy)), room_one _ _ 40 (by omega) (by omega), cond_true, (t1 hy).2, app_eq]
     ·rw [if_pos hy, room_one _ _ 40 (by omega) (by omega), cond_true, cond_ndec, app_eq, app_eq]
      by_cases e : (s.2.1.getD i dB).1 = n
      ·rw [if_pos e, (t2 hy all).1 e]
      ·rw [if_neg e, room_one _ _ 40 (by simp; omega) (by omega), cond_true, (t2 hy all).2 e]
    ·have r0 : refK ltS (fun b : Bv => b.1) (s.2.1.take i) (n, norm v) = (true, insB (s.2.1.take i) (n, norm v)) := by unfold refK; rw [if_neg all]
     rw [r0] at hL ⊢
     simp only [not_true, cond_false]
     rw [cond_ndec, if_neg (t3 all).1, room_one _ _ 40 (by simp only at hL ⊢; omega) (by omega), cond_true, (t3 all).2, app_eq]
   ·try dsimp only
    rw [ilt_end, cond_false, List.take_length]
 ·rw [if_neg m, if_neg m]
theorem ref_put (s : Sta) (x : At) (o : Sp) (h : FewT s) (ho : FewS o) : ref08_Put K (s, x, o) = some (putT s x o) := by
 unfold ref08_Put putT
 try dsimp only
 rw [ref_may8 s h, bind_some, cond_ndec]
 by_cases m : MayS s
 ·rw [if_pos m, if_pos m, ref_place, bind_some, cond_ndec]
  by_cases mp : PlaceA x
  ·rw [if_pos mp, if_pos mp, ref_may7 o ho, bind_some, cond_ndec]
   by_cases mo : MayO o
   ·rw [if_pos mo, if_pos mo]
    by_cases hd : s.1 = true
    ·rw [if_pos hd, cond_of hd]
     obtain ⟨e1, e2⟩ := m.2.2 hd
     congr 1
     exact Prod.ext hd (Prod.ext e1 e2)
    ·rw [if_neg hd, cond_of' hd]
     have h1 := h.2.2.1
     have hu : Up ltA (fun b : Lc => b.1) s.2.2 := m.2.1.1
     have hs1 : s.1 = false := by simpa using hd
     rw [loop_gen s.2.2.length (fun i => ((refK ltA (fun b : Lc => b.1) (s.2.2.take i) (x, o)).1, (i : Int), false, s.2.1, (refK ltA (fun b : Lc => b.1) (s.2.2.take i) (x, o)).2)) _ ((refK ltA (fun b : Lc => b.1) s.2.2 (x, o)).1, false, s.2.1, (refK ltA (fun b : Lc => b.1) s.2.2 (x, o)).2) (by omega) ?_ ?_ ?_]
     ·have hE := refK_end (lt := ltA) (key := fun b : Lc => b.1) ordA (l := s.2.2) (x, o)
      have hL := refK_len (lt := ltA) (key := fun b : Lc => b.1) s.2.2 (x, o)
      try dsimp only
      rw [show insL s.2.2 (x, o) = _ from hE.symm, hs1]
      generalize refK ltA (fun b : Lc => b.1) s.2.2 (x, o) = R at hL
      obtain ⟨b, t⟩ := R
      cases b
      ·rw [not_false', cond_true, room_one _ _ 64 (by simp only at hL ⊢; omega) (by omega), cond_true]; rfl
      ·rw [not_true, cond_false]; rfl
     ·show ((refK ltA (fun b : Lc => b.1) [] (x, o)).1, _, _, _, (refK ltA (fun b : Lc => b.1) [] (x, o)).2) = _
      rw [refK_nil]; rfl
     ·intro i hi
      have hui := up_take hu hi dL
      have e1 := take_getD' hi dL
      obtain ⟨t1, t2, t3⟩ := refK_step ordA hui (x, o)
      have htl : (s.2.2.take i).length ≤ 100000 := by rw [List.length_take]; omega
      have hL := refK_len (lt := ltA) (key := fun b : Lc => b.1) (s.2.2.take i) (x, o)
      try dsimp only
      rw [ilt_len hi, cond_true, inb_len hi, e1, wrap_succ (by omega)]
      simp only [cond_true, get_dL, eqA_dec, ref_less, bind_some]
      by_cases all : ∀ a, a ∈ s.2.2.take i → ltA a.1 x
      ·have r0 : refK ltA (fun b : Lc => b.1) (s.2.2.take i) (x, o) = (false, s.2.2.take i) := by unfold refK; rw [if_pos all]
       rw [r0]
       simp only [not_false', cond_true]
       rw [ref_less, bind_some, cond_ndec]
       by_cases hy : ltA (s.2.2.getD i dL).1 x
       ·rw [if_pos hy, cond_ndec, if_neg (fun e : (s.2.2.getD i dL).1 = x => ltA_irrefl x (by rw [e] at hy; exact hy)), room_one _ _ 64 (by omega) (by omega), cond_true, (t1 hy).2, app_eq]
       ·rw [if_neg hy, room_one _ _ 64 (by omega) (by omega), cond_true, cond_ndec, app_eq, app_eq]
        by_cases e : (s.2.2.getD i dL).1 = x
        ·rw [if_pos e, (t2 hy all).1 e]
        ·rw [if_neg e, room_one _ _ 64 (by simp; omega) (by omega), cond_true, (t2 hy all).2 e]
      ·have r0 : refK ltA (fun b : Lc => b.1) (s.2.2.take i) (x, o) = (true, insL (s.2.2.take i) (x, o)) := by unfold refK; rw [if_neg all]
       rw [r0] at hL ⊢
       simp only [not_true, cond_false]
       rw [cond_ndec, if_neg (t3 all).1, room_one _ _ 64 (by simp only at hL ⊢; omega) (by omega), cond_true, (t3 all).2, app_eq]
     ·try dsimp only
      rw [ilt_end, cond_false, List.take_length]
   ·rw [if_neg mo, if_neg mo]
  ·rw [if_neg mp, if_neg mp]
 ·rw [if_neg m, if_neg m]
theorem st_loc (s : Sta) (x : At) (h : FewT s) : state_Loc K (s, x) = some (locR s.2.2 x) := by
 unfold state_Loc
 try dsimp only
 have h3 := h.2.2.1
 rw [loop_find s.2.2 dL (fun b => b.1 = x) (fun b => (b.2, true)) (by omega) ?_ ?_]
 ·unfold locR getL
  cases s.2.2.find? fun b => decide (b.1 = x) with
  | none => rfl
  | some b => rfl
 ·intro i hi
  have hm := getD_mem hi dL
  try dsimp only
  rw [ilt_len hi, cond_true, inb_len hi, cond_true, get_dL, eqA_dec, cond_dec, wrap_succ (by omega)]
  by_cases q : (s.2.2.getD i dL).1 = x
  ·rw [if_pos q, if_pos q, show P.ile (0 : Int) (i : Int) = true from ile_iff.2 (by omega), cond_true, cond_true, ob_copy _ (h.2.2.2 _ hm), bind_some, map_some']
  ·rw [if_neg q, if_neg q]
 ·try dsimp only
  rw [ilt_end]; rfl
end Go.PL
end
section
open Go Go.PG Go.PL
set_option linter.all false
namespace Go.PL
def renL (i : Int) (b : Lc) : Lc := (b.1, rename b.2 i)
def base (i : Int) (l : List Lc) : List Lc := (l.filter fun b => decide (b.1 ≠ (4, i))).map (renL i)
end Go.PL
end
section
open Go Go.PG Go.PL
set_option linter.all false
namespace Go.PL
theorem mayS_mk {V : List Bv} {L : List Lc} (h1 : RisesB V ∧ ∀ b, b ∈ V → b.2 = norm b.2) (h2 : RisesL L ∧ ∀ l, l ∈ L → PlaceA l.1 ∧ MayO l.2) : MayS (false, V, L) := ⟨h1, h2, fun z => by cases z⟩
theorem setT_ok {V : List Bv} {L : List Lc} (h : MayS (false, V, L)) (n : ByteArray) (v : List At) : setT (false, V, L) n v = (false, insB V (n, norm v), L) := by
 unfold setT; rw [if_pos h, if_neg (by simp)]
theorem putT_ok {V : List Bv} {L : List Lc} (h : MayS (false, V, L)) {x : At} (hx : PlaceA x) {o : Sp} (ho : MayO o) : putT (false, V, L) x o = (false, V, insL L (x, o)) := by
 unfold putT; rw [if_pos h, if_pos hx, if_pos ho, if_neg (by simp)]
theorem take_all {α : Type} {p : α → Prop} {l : List α} (h : ∀ b, b ∈ l → p b) (j : Nat) : ∀ b, b ∈ l.take j → p b := fun b hb => h b (List.mem_of_mem_take hb)
end Go.PL
end
section
open Go Go.PG Go.PL
set_option linter.all false
namespace Go.PL
end Go.PL
end
section
open Go Go.PG Go.PL
set_option linter.all false
namespace Go.PL
def t9 : Sta := (false, [(⟨#[120]⟩, [(5, 0)]), (⟨#[121]⟩, [(4, 0)])], [((4, 0), ([], [(5, 0)])), ((5, 0), ([(⟨#[112]⟩, true, [(2, 0)])], [(0, 0)]))])
def u9 : Sta := (false, [(⟨#[120]⟩, [(5, 0)])], [((5, 0), ([(⟨#[112]⟩, true, [(2, 0)])], [(0, 0)]))])
end Go.PL
end
section
open Go Go.PG Go.PL
set_option linter.all false
namespace Go.PL
end Go.PL
end

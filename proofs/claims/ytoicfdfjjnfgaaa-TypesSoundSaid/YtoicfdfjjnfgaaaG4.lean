/- Lemmas for the claim. -/
import Derived.Test.YtoicfdfjjnfgaaaG3
import Derived.WalkKit
import Derived.ProofKit
import Derived.Below
import Derived.Carry
import Derived.SizedLaws
import Derived.RowKit
import Derived.Test.YtoicfdfjjnfgaaaProg
import Derived.KernelRfl
import Derived.Lib.Strings
import Derived.Lib.Slices
import Derived.Lib.Walk
import Derived.Lib.Bytealg
import Derived.Test.YtoicfdfjjnfgaaaG1
import Derived.Laws.Strings
set_option linter.all false
section
namespace Go.PG
open Go.RowKit Go.ChangeShapes
variable {N : Nat} {P : Program} {w : World} {H : Type} {enc : TypeId × Value → H}
def ArgsOk (P : Program) : Ty → List TypeId → Prop
  | .unit, ts => ts = []
  | .pair a b, ts => ∃ t r, ts = t :: r ∧ Ok P a (.typ t) ∧ readTy a = true ∧ ArgsOk P b r
  | a, ts => ∃ t, ts = [t] ∧ Ok P a (.typ t) ∧ readTy a = true
theorem dataOf {B : Ty → Nat} {Gd : TypeId → Prop} (HB : BytesOk P B Gd) {base : Nat} {t : Ty} {id : TypeId} (hg : Gd id) (hok : Ok P t (.typ id)) (hr : readTy t = true) {v : Value} (hv : Value.okWide P w .any base id v) {d : DataW H} {ps : List MemPlace} (h : DataW.Trod enc P w 0 (fun _ => true) true id v d ps) :
    ∃ y : t.D, RepDV (fun _ => False) w t y v ∧ Wf t y ∧ (InrN N (d.weights P id) → WbN N B t y) := by
  obtain ⟨fuel, h⟩ := h
  obtain ⟨y, h1, h2⟩ := (read_all HB t).1 id fuel _ _ hg hok hr h
  refine ⟨y, ?_, h2⟩
  have one : isSt t = false → v.cells = #[v] → RepDV (fun _ => False) w t y v := by
    intro hs hc
    rw [hc] at h1
    exact .inr ⟨hs, h1⟩
  cases t with
  | unit => exact hok.elim
  | map _ _ => exact hok.elim
  | dmap _ _ => exact hok.elim
  | bld _ _ => exact hok.elim
  | pair a b => exact hok.elim
  | opq => simp [readTy] at hr
  | bool => obtain ⟨b, rfl⟩ := Go.WideShapes.okWide_bool hok.1 hv; exact one rfl rfl
  | int k => obtain ⟨n, rfl⟩ := Go.WideShapes.okWide_int hok.1 hv; exact one rfl rfl
  | str => obtain ⟨n, rfl⟩ := Go.WideShapes.okWide_string hok.1 hv; exact one rfl rfl
  | slice e => obtain ⟨⟨e', hu, _⟩, _⟩ := hok; obtain ⟨_, _, _, rfl⟩ := Go.WideShapes.okWide_slice hu hv; exact one rfl rfl
  | st b =>
    obtain ⟨hk, _⟩ := hok
    have : ∃ cs, v = .agg cs := by
      rcases hk with ⟨fs, hu, _⟩ | ⟨n, e, hu, _⟩
      · simp only [Value.okWide, hu] at hv
        obtain ⟨cs, e, _⟩ := hv
        exact ⟨cs, e⟩
      · simp only [Value.okWide, hu] at hv
        obtain ⟨cs, e, _⟩ := hv
        exact ⟨cs, e⟩
    obtain ⟨cs, rfl⟩ := this
    exact .inl ⟨rfl, cs, rfl, h1⟩
theorem argsOf {B : Ty → Nat} {Gd : TypeId → Prop} (HB : BytesOk P B Gd) {base : Nat} : ∀ (t : Ty) (ts : List TypeId) (vs : List Value) (ds : List (DataW H)) (ps : List MemPlace), (∀ u, u ∈ ts → Gd u) → ArgsOk P t ts → (∀ (j : Nat) id v, ts[j]? = some id → vs[j]? = some v → Value.okWide P w .any base id v) →
    DataW.TrodAll enc P w 0 (fun _ => true) true ts vs ds ps → ∃ x : t.D, RepT (cz (fun _ => False) w) (argAV t x) vs ∧ Wf t x ∧ (InrN N (DataW.weightsEach P ts ds) → WbN N B t x) := by
  have one : ∀ (t : Ty) (id : TypeId) (vs : List Value) (ds : List (DataW H)) (ps : List MemPlace), Gd id → Ok P t (.typ id) → readTy t = true → (∀ (j : Nat) id' v, [id][j]? = some id' → vs[j]? = some v → Value.okWide P w .any base id' v) →
      DataW.TrodAll enc P w 0 (fun _ => true) true [id] vs ds ps → ∃ x : t.D, RepT (cz (fun _ => False) w) (.data t x) vs ∧ Wf t x ∧ (InrN N (DataW.weightsEach P [id] ds) → WbN N B t x) := by
    intro t id vs ds ps hg hok hr hv h
    obtain ⟨v, vs', d, ds', p, q, rfl, rfl, rfl, h1, h2⟩ := trodAll_cons h
    obtain ⟨rfl, rfl, rfl⟩ := trodAll_nil h2
    obtain ⟨y, h3, h4, h5⟩ := dataOf HB hg hok hr (hv 0 id v rfl rfl) h1
    refine ⟨y, ?_, h4, fun hw => h5 ?_⟩
    · rw [repT_data, cz_Zeq]
      exact ⟨v, rfl, h3⟩
    · simp only [DataW.weightsEach] at hw
      exact hw.left
  intro t
  induction t with
  | unit =>
    intro ts vs ds ps hg ha hv h
    have ha : ts = [] := ha
    subst ha
    obtain ⟨rfl, rfl, rfl⟩ := trodAll_nil h
    exact ⟨(), by simp only [argAV, RepT], trivial, fun _ => trivial⟩
  | pair a b iha ihb =>
    intro ts vs ds ps hg ha hv h
    obtain ⟨id, r, rfl, hok, hr, hb⟩ := ha
    obtain ⟨v, vs', d, ds', p, q, rfl, rfl, rfl, h1, h2⟩ := trodAll_cons h
    obtain ⟨y, h3, h4, h7⟩ := dataOf HB (hg id (by simp)) hok hr (hv 0 id v rfl rfl) h1
    obtain ⟨z, h5, h6, h8⟩ := ihb r vs' ds' q (fun u hu => hg u (List.mem_cons_of_mem _ hu)) hb (fun j id' v' q1 q2 => hv (j + 1) id' v' (by simpa using q1) (by simpa using q2)) h2
    refine ⟨(y, z), ?_, ⟨h4, h6⟩, fun hw => by
      simp only [DataW.weightsEach] at hw
      exact ⟨h7 hw.left, h8 hw.right⟩⟩
    simp only [argAV, RepT, RepV]
    rw [cz_Zeq]
    exact ⟨v, vs', rfl, h3, h5⟩
  | bool => intro ts vs ds ps hg ha hv h; obtain ⟨id, rfl, hok, hr⟩ := ha; exact one _ id vs ds ps (hg id (by simp)) hok hr hv h
  | int k => intro ts vs ds ps hg ha hv h; obtain ⟨id, rfl, hok, hr⟩ := ha; exact one _ id vs ds ps (hg id (by simp)) hok hr hv h
  | str => intro ts vs ds ps hg ha hv h; obtain ⟨id, rfl, hok, hr⟩ := ha; exact one _ id vs ds ps (hg id (by simp)) hok hr hv h
  | opq => intro ts vs ds ps hg ha hv h; obtain ⟨id, rfl, hok, hr⟩ := ha; exact one _ id vs ds ps (hg id (by simp)) hok hr hv h
  | map _ _ _ _ => intro ts vs ds ps hg ha hv h; obtain ⟨id, rfl, hok, hr⟩ := ha; exact one _ id vs ds ps (hg id (by simp)) hok hr hv h
  | dmap _ _ _ _ => intro ts vs ds ps hg ha hv h; obtain ⟨id, rfl, hok, hr⟩ := ha; exact one _ id vs ds ps (hg id (by simp)) hok hr hv h
  | bld _ _ => intro ts vs ds ps hg ha hv h; obtain ⟨id, rfl, hok, hr⟩ := ha; exact one _ id vs ds ps (hg id (by simp)) hok hr hv h
  | slice e _ => intro ts vs ds ps hg ha hv h; obtain ⟨id, rfl, hok, hr⟩ := ha; exact one _ id vs ds ps (hg id (by simp)) hok hr hv h
  | st b _ => intro ts vs ds ps hg ha hv h; obtain ⟨id, rfl, hok, hr⟩ := ha; exact one _ id vs ds ps (hg id (by simp)) hok hr hv h
theorem argsBack {W W' : World} (hl : laidOutB P = true) (hb : Below W.heap.size W W') : ∀ (ts : List TypeId) (vs : List Value) (ds : List (DataW H)) (ps : List MemPlace), (∀ t, t ∈ ts → P.readableRec t = true ∧ t < P.types.size) →
    DataW.TrodAll enc P W 0 (fun _ => true) true ts vs ds ps → DataW.TrodAll enc P W' 0 (fun b => decide (b < W.heap.size)) true ts vs ds ps := by
  intro ts
  induction ts with
  | nil => intro vs ds ps _ h; obtain ⟨rfl, rfl, rfl⟩ := trodAll_nil h; exact trodAll_mk0
  | cons t ts ih =>
    intro vs ds ps ht h
    obtain ⟨v, vs', d, ds', p, q, rfl, rfl, rfl, h1, h2⟩ := trodAll_cons h
    have hlt : ∀ x ∈ p, x.block < W.heap.size := by
      obtain ⟨m, hm⟩ := h1
      exact DataW.trod_lt m _ _ _ hm
    obtain ⟨r1, r2⟩ := ht t (by simp)
    exact trodAll_cons_mk (Below.trod hl r1 r2 h1 hb hlt) (ih vs' ds' q (fun u hu => ht u (List.mem_cons_of_mem _ hu)) h2)
theorem rowContractG {G : World → Prop} {f : FuncId} {fn : Func} {t : Ty} {F : t.D → Option Bool} {rt : TypeId} {s : ChangeSpec} {base : Nat} {W : World} {args : Array Value} {ds gs : List (DataW H)} {before : List MemPlace}
    (hs : SpecOk P G f ⟨t, .bool, F⟩) (hl : laidOutB P = true) (hp : ArgsOk P t fn.params.toList) (hread : ∀ t, t ∈ fn.params.toList → P.readableRec t = true ∧ t < P.types.size)
    (hres : fn.resultTypes = #[rt]) (hrt : P.underlying rt = some .bool) (hvars : s.vars = []) (hfn : ∀ ds : List (DataW H), ds.length = fn.params.toList.length → s.fn H ds = { results := [.lit (.bool true)], args := ds })
    (hval : ∀ (j : Nat) t v, fn.params[j]? = some t → args[j]? = some v → Value.okWide P W .any base t v) (hW : DataW.Whole enc P fn.params.toList s.vars false W args.toList ds gs before)
    (hF : ∀ x, Wf t x → F x = some true) (hG : G W) :
    Calls P f args W fun e W' => ∃ v, e = .returned v ∧ s.post enc P fn false true false false W args v W' := by
  have hW' := hW
  obtain ⟨p, q, hA, hV, rfl, hfz, hnd⟩ := hW
  rw [hvars] at hV
  obtain ⟨rfl, rfl⟩ := trodVars_none hV
  obtain ⟨x, hx, hwf, _⟩ := argsOf (N := reachBytes) (B := fun _ => 0) (Gd := fun _ => True) ⟨fun _ _ _ _ => ⟨trivial, fun _ _ => Nat.zero_le _⟩, fun _ _ _ _ _ _ => trivial, fun _ _ _ _ _ => trivial⟩ t _ _ _ _ (fun _ _ => trivial) hp (fun j id v h1 h2 => hval j id v (by rw [← Array.getElem?_toList]; exact h1) (by rw [← Array.getElem?_toList]; exact h2)) hA
  refine (hs (fun _ => False) W args x true hG (fun _ h => h.elim) (hF x hwf) hx).mono fun e W' ⟨v, he, bel, hv⟩ => ⟨v, he, ?_⟩
  have hv : v = .bool true := repV_bool (by simpa only [resAV] using hv)
  subst hv
  have hlen : ds.length = fn.params.toList.length := by
    have : ∀ (ts : List TypeId) (vs : List Value) (ds : List (DataW H)) (ps : List MemPlace), DataW.TrodAll enc P W 0 (fun _ => true) true ts vs ds ps → ds.length = ts.length := by
      intro ts
      induction ts with
      | nil => intro vs ds ps h; obtain ⟨_, rfl, _⟩ := trodAll_nil h; rfl
      | cons t ts ih =>
        intro vs ds ps h
        obtain ⟨v, vs', d, ds', p, q, rfl, rfl, rfl, h1, h2⟩ := trodAll_cons h
        simp [ih _ _ _ h2]
    exact this _ _ _ _ hA
  refine ⟨ds, [], _, [], p, [], hW', ?_, ?_, ?_, bel.frame _, fun h => by cases h⟩
  · rw [List.append_nil, hfn ds hlen, hres]
    exact trodAll_mk1 (shut_bool hrt _)
  · rw [List.append_nil, hfn ds hlen]
    exact argsBack hl bel _ _ _ _ hread hA
  · rw [List.append_nil, hfn ds hlen, hvars]
    rfl
theorem rowContract {f : FuncId} {fn : Func} {t : Ty} {F : t.D → Option Bool} {rt : TypeId} {s : ChangeSpec} {base : Nat} {W : World} {args : Array Value} {ds gs : List (DataW H)} {before : List MemPlace}
    (hs : SpecOk P (fun _ => True) f ⟨t, .bool, F⟩) (hl : laidOutB P = true) (hp : ArgsOk P t fn.params.toList) (hread : ∀ t, t ∈ fn.params.toList → P.readableRec t = true ∧ t < P.types.size)
    (hres : fn.resultTypes = #[rt]) (hrt : P.underlying rt = some .bool) (hvars : s.vars = []) (hfn : ∀ ds : List (DataW H), ds.length = fn.params.toList.length → s.fn H ds = { results := [.lit (.bool true)], args := ds })
    (hval : ∀ (j : Nat) t v, fn.params[j]? = some t → args[j]? = some v → Value.okWide P W .any base t v) (hW : DataW.Whole enc P fn.params.toList s.vars false W args.toList ds gs before)
    (hF : ∀ x, Wf t x → F x = some true) :
    Calls P f args W fun e W' => ∃ v, e = .returned v ∧ s.post enc P fn false true false false W args v W' := rowContractG hs hl hp hread hres hrt hvars hfn hval hW hF trivial
end Go.PG
namespace Go.PG
def argsOkB (P : Program) : Ty → List TypeId → Bool
  | .unit, ts => match ts with
    | [] => true
    | _ => false
  | .pair a b, ts => match ts with
    | t :: r => match okB P a (.typ t), readTy a with
      | true, true => argsOkB P b r
      | _, _ => false
    | [] => false
  | a, ts => match ts with
    | [t] => match okB P a (.typ t), readTy a with
      | true, true => true
      | _, _ => false
    | _ => false
theorem ArgsOk.of_b {P : Program} : ∀ {t : Ty} {ts : List TypeId}, argsOkB P t ts = true → ArgsOk P t ts := by
  have one : ∀ {a : Ty} {ts : List TypeId}, (match ts with
      | [t] => match okB P a (.typ t), readTy a with
        | true, true => true
        | _, _ => false
      | _ => false) = true → ∃ t, ts = [t] ∧ Ok P a (.typ t) ∧ readTy a = true := by
    intro a ts h
    split at h
    · rename_i t
      split at h
      · rename_i h1 h2
        exact ⟨t, rfl, okB_spec h1, h2⟩
      · cases h
    · cases h
  intro t
  induction t with
  | unit =>
    intro ts h
    simp only [argsOkB] at h
    split at h
    · rfl
    · cases h
  | pair a b _ ihb =>
    intro ts h
    simp only [argsOkB] at h
    split at h
    · split at h
      · rename_i h1 h2
        exact ⟨_, _, rfl, okB_spec h1, h2, ihb h⟩
      · cases h
    · cases h
  | _ => intro ts h; exact one (by simpa only [argsOkB] using h)
def readB (P : Program) : List TypeId → Bool
  | [] => true
  | t :: r => match P.readableRec t, Nat.blt t P.types.size with
    | true, true => readB P r
    | _, _ => false
theorem readable_of_b {P : Program} : ∀ {ts : List TypeId}, readB P ts = true → ∀ t, t ∈ ts → P.readableRec t = true ∧ t < P.types.size := by
  intro ts
  induction ts with
  | nil => intro _ t h; cases h
  | cons u r ih =>
    intro h t ht
    simp only [readB] at h
    split at h
    · rename_i h1 h2
      rcases List.mem_cons.1 ht with rfl | ht
      · exact ⟨h1, by simpa [Nat.blt_eq] using h2⟩
      · exact ih h t ht
    · cases h
end Go.PG
end
section
namespace Go.PG
variable {P : Program}
end Go.PG
end
section
namespace Go.PG
open Go.RowKit Go.ChangeShapes
variable {P : Program} {w : World} {H : Type} {enc : TypeId × Value → H}
end Go.PG
end
section
open Go Go.PG Go.Proofs
set_option linter.all false
set_option maxRecDepth 1000000
set_option maxHeartbeats 4000000
abbrev T_api_TField : Ty := .st (.pair .str (.int .i64))
abbrev T_api_Type : Ty := .st (.pair (.int .i64) (.pair (.slice T_api_TField) (.slice (.int .i64))))
abbrev T_api_Val : Ty := .st (.pair (.int .i64) (.int .i64))
abbrev T_api_Prop : Ty := .st (.pair .str T_api_Val)
abbrev T_api_Obj : Ty := .st (.pair (.slice T_api_Prop) T_api_Val)
abbrev T_proteanlaw24_To : Ty := .st (.pair T_api_Val (.pair (.int .i64) (.int .i64)))
abbrev T_types_pair : Ty := .st (.pair (.int .i64) (.int .i64))
abbrev T_types_pair_126 : Ty := .st (.pair T_api_Val (.int .i64))
abbrev T_types_pair_ : Ty := .st (.pair .opq (.pair .opq .opq))
abbrev T_types_pair__188 : Ty := .st (.pair .opq (.pair .opq .opq))
noncomputable def T : List (Nat × TyRow) := [(3, ⟨(.int .i64), 0, false, false⟩), (4, ⟨.bool, 0, false, false⟩), (9, ⟨.str, 0, false, false⟩), (22, ⟨(.slice T_api_Type), 56, false, false⟩), (26, ⟨(.st (.pair (.int .i64) (.pair (.int .i64) (.int .i64)))), 0, false, true⟩), (28, ⟨(.slice T_api_Obj), 40, false, false⟩), (30, ⟨T_api_Val, 0, true, false⟩), (32, ⟨T_proteanlaw24_To, 0, true, false⟩), (36, ⟨(.slice T_api_TField), 24, false, false⟩), (37, ⟨(.slice (.int .i64)), 8, false, false⟩), (39, ⟨T_api_Type, 0, false, false⟩), (40, ⟨(.slice T_api_Prop), 32, false, false⟩), (93, ⟨T_api_Prop, 0, true, false⟩), (95, ⟨T_api_Obj, 0, false, false⟩), (108, ⟨T_api_TField, 0, true, false⟩), (110, ⟨.opq, 0, false, false⟩), (114, ⟨T_types_pair, 0, true, false⟩), (115, ⟨.opq, 0, false, false⟩), (119, ⟨.opq, 0, false, false⟩), (120, ⟨.opq, 0, false, false⟩), (121, ⟨(.slice .bool), 1, false, false⟩), (123, ⟨.opq, 0, false, false⟩), (126, ⟨T_types_pair_126, 0, true, false⟩), (127, ⟨.opq, 0, false, false⟩), (128, ⟨.opq, 0, false, false⟩), (174, ⟨.opq, 0, false, false⟩), (175, ⟨.opq, 0, false, false⟩), (176, ⟨.opq, 0, false, false⟩), (178, ⟨T_types_pair_, 0, false, false⟩), (179, ⟨(.slice T_types_pair), 16, false, false⟩), (183, ⟨.opq, 0, false, false⟩), (184, ⟨.opq, 0, false, false⟩), (185, ⟨.opq, 0, false, false⟩), (186, ⟨.opq, 0, false, false⟩), (188, ⟨T_types_pair__188, 0, false, false⟩), (189, ⟨(.slice T_types_pair_126), 24, false, false⟩), (208, ⟨(.int .u64), 0, false, false⟩), (210, ⟨.opq, 0, false, false⟩)]
theorem mixedOk : Try.prog.follows .mixedOrders = true := by kernel_rfl
theorem tabOk : tysB Try.prog T = true := by kernel_rfl
abbrev GG : World → Prop := fun _ => True
theorem f74_at : Try.prog.funcs[74]? = some Try.f74 := by kernel_rfl
theorem f74_ok : (Try.f74.name != "runtime.NumGoroutine" && Try.f74.body.isSome) = true := by kernel_rfl
theorem f139_at : Try.prog.funcs[139]? = some Try.f139 := by kernel_rfl
theorem f139_ok : (Try.f139.name != "runtime.NumGoroutine" && Try.f139.body.isSome) = true := by kernel_rfl
theorem f77_at : Try.prog.funcs[77]? = some Try.f77 := by kernel_rfl
theorem f77_ok : (Try.f77.name != "runtime.NumGoroutine" && Try.f77.body.isSome) = true := by kernel_rfl
theorem f82_at : Try.prog.funcs[82]? = some Try.f82 := by kernel_rfl
theorem f82_ok : (Try.f82.name != "runtime.NumGoroutine" && Try.f82.body.isSome) = true := by kernel_rfl
theorem f15_at : Try.prog.funcs[15]? = some Try.f15 := by kernel_rfl
theorem f15_ok : (Try.f15.name != "runtime.NumGoroutine" && Try.f15.body.isSome) = true := by kernel_rfl
theorem f17_at : Try.prog.funcs[17]? = some Try.f17 := by kernel_rfl
theorem f17_ok : (Try.f17.name != "runtime.NumGoroutine" && Try.f17.body.isSome) = true := by kernel_rfl
theorem f66_at : Try.prog.funcs[66]? = some Try.f66 := by kernel_rfl
theorem f66_ok : (Try.f66.name != "runtime.NumGoroutine" && Try.f66.body.isSome) = true := by kernel_rfl
theorem f19_at : Try.prog.funcs[19]? = some Try.f19 := by kernel_rfl
theorem f19_ok : (Try.f19.name != "runtime.NumGoroutine" && Try.f19.body.isSome) = true := by kernel_rfl
theorem f21_at : Try.prog.funcs[21]? = some Try.f21 := by kernel_rfl
theorem f21_ok : (Try.f21.name != "runtime.NumGoroutine" && Try.f21.body.isSome) = true := by kernel_rfl
theorem f76_at : Try.prog.funcs[76]? = some Try.f76 := by kernel_rfl
theorem f76_ok : (Try.f76.name != "runtime.NumGoroutine" && Try.f76.body.isSome) = true := by kernel_rfl
theorem f25_at : Try.prog.funcs[25]? = some Try.f25 := by kernel_rfl
theorem f25_ok : (Try.f25.name != "runtime.NumGoroutine" && Try.f25.body.isSome) = true := by kernel_rfl
theorem f63_at : Try.prog.funcs[63]? = some Try.f63 := by kernel_rfl
theorem f63_ok : (Try.f63.name != "runtime.NumGoroutine" && Try.f63.body.isSome) = true := by kernel_rfl
theorem f16_at : Try.prog.funcs[16]? = some Try.f16 := by kernel_rfl
theorem f16_ok : (Try.f16.name != "runtime.NumGoroutine" && Try.f16.body.isSome) = true := by kernel_rfl
theorem f18_at : Try.prog.funcs[18]? = some Try.f18 := by kernel_rfl
theorem f18_ok : (Try.f18.name != "runtime.NumGoroutine" && Try.f18.body.isSome) = true := by kernel_rfl
theorem f137_at : Try.prog.funcs[137]? = some Try.f137 := by kernel_rfl
theorem f137_ok : (Try.f137.name != "runtime.NumGoroutine" && Try.f137.body.isSome) = true := by kernel_rfl
theorem f75_at : Try.prog.funcs[75]? = some Try.f75 := by kernel_rfl
theorem f75_ok : (Try.f75.name != "runtime.NumGoroutine" && Try.f75.body.isSome) = true := by kernel_rfl
theorem f20_at : Try.prog.funcs[20]? = some Try.f20 := by kernel_rfl
theorem f20_ok : (Try.f20.name != "runtime.NumGoroutine" && Try.f20.body.isSome) = true := by kernel_rfl
theorem f22_at : Try.prog.funcs[22]? = some Try.f22 := by kernel_rfl
theorem f22_ok : (Try.f22.name != "runtime.NumGoroutine" && Try.f22.body.isSome) = true := by kernel_rfl
theorem f3_at : Try.prog.funcs[3]? = some Try.f3 := by kernel_rfl
theorem f4_at : Try.prog.funcs[4]? = some Try.f4 := by kernel_rfl
theorem f23_at : Try.prog.funcs[23]? = some Try.f23 := by kernel_rfl
theorem f23_ok : (Try.f23.name != "runtime.NumGoroutine" && Try.f23.body.isSome) = true := by kernel_rfl
theorem f42_at : Try.prog.funcs[42]? = some Try.f42 := by kernel_rfl
theorem f42_ok : (Try.f42.name != "runtime.NumGoroutine" && Try.f42.body.isSome) = true := by kernel_rfl
theorem f24_at : Try.prog.funcs[24]? = some Try.f24 := by kernel_rfl
theorem f24_ok : (Try.f24.name != "runtime.NumGoroutine" && Try.f24.body.isSome) = true := by kernel_rfl
theorem f5_at : Try.prog.funcs[5]? = some Try.f5 := by kernel_rfl
theorem f6_at : Try.prog.funcs[6]? = some Try.f6 := by kernel_rfl
theorem f64_at : Try.prog.funcs[64]? = some Try.f64 := by kernel_rfl
theorem f64_ok : (Try.f64.name != "runtime.NumGoroutine" && Try.f64.body.isSome) = true := by kernel_rfl
theorem f132_at : Try.prog.funcs[132]? = some Try.f132 := by kernel_rfl
theorem f132_ok : (Try.f132.name != "runtime.NumGoroutine" && Try.f132.body.isSome) = true := by kernel_rfl
theorem f65_at : Try.prog.funcs[65]? = some Try.f65 := by kernel_rfl
theorem f65_ok : (Try.f65.name != "runtime.NumGoroutine" && Try.f65.body.isSome) = true := by kernel_rfl
theorem f134_at : Try.prog.funcs[134]? = some Try.f134 := by kernel_rfl
theorem f134_ok : (Try.f134.name != "runtime.NumGoroutine" && Try.f134.body.isSome) = true := by kernel_rfl
theorem f135_at : Try.prog.funcs[135]? = some Try.f135 := by kernel_rfl
theorem f135_ok : (Try.f135.name != "runtime.NumGoroutine" && Try.f135.body.isSome) = true := by kernel_rfl
theorem f163_at : Try.prog.funcs[163]? = some Try.f163 := by kernel_rfl
theorem f163_ok : (Try.f163.name != "runtime.NumGoroutine" && Try.f163.body.isSome) = true := by kernel_rfl
theorem f164_at : Try.prog.funcs[164]? = some Try.f164 := by kernel_rfl
theorem f164_ok : (Try.f164.name != "runtime.NumGoroutine" && Try.f164.body.isSome) = true := by kernel_rfl
theorem f136_at : Try.prog.funcs[136]? = some Try.f136 := by kernel_rfl
theorem f136_ok : (Try.f136.name != "runtime.NumGoroutine" && Try.f136.body.isSome) = true := by kernel_rfl
noncomputable def codes : List (Nat × Func × List (Nat × Hint)) := [(64, Try.f64, []), (132, Try.f132, [(2, ⟨[.var 8 (.d (.int .i64))], [], (some (0, []))⟩)]), (65, Try.f65, []), (134, Try.f134, [(3, ⟨[.var 9 (.d (.int .i64)), .var 10 (.d (.int .i64))], [], (some (0, [.var 9 (.d (.int .i64))]))⟩)]), (135, Try.f135, []), (163, Try.f163, [(3, ⟨[.var 9 (.d (.int .i64)), .var 10 (.d (.int .i64))], [], (some (0, [.var 9 (.d (.int .i64))]))⟩)]), (164, Try.f164, [])]
theorem codesOk : CodesOk Try.prog codes := .cons f64_at f64_ok <| .cons f132_at f132_ok <| .cons f65_at f65_ok <| .cons f134_at f134_ok <| .cons f135_at f135_ok <| .cons f163_at f163_ok <| .cons f164_at f164_ok <| .nil
def strings_Compare (_k : Nat) (x : ByteArray × ByteArray) : Option Int := some (Lib.compareBytes x.1.data.toList x.2.data.toList)
section
open Go.RowKit
theorem cmpIn (a b : ByteArray) (w : World) : Calls Try.prog 162 #[.string a, .string b] w fun e w' => e = .returned (.int .i64 (Lib.compareBytes a.data.toList b.data.toList)) ∧ w' = w := by
  go_enter Try.func162, Try.ntmps162
  go_wp2
  rw [run_callFunc_extern Try.func179 (by kernel_rfl) (by kernel_rfl) (by kernel_rfl) (e := Extern.BytealgCompare.compare) (by kernel_rfl), Lib.run_compareString]
  simp only [Result.andThen]
  rw [Oper.upon_value]
  go_wp2
  go_ret
  exact ⟨rfl, rfl⟩
theorem cmpOut (a b : ByteArray) (w : World) : Calls Try.prog 136 #[.string a, .string b] w fun e w' => e = .returned (.int .i64 (Lib.compareBytes a.data.toList b.data.toList)) ∧ w' = w := by
  go_enter Try.func136, Try.ntmps136
  go_wp2_with (go_at_call 162; refine (cmpIn _ _ _).mono ?_; rintro e w' ⟨rfl, rfl⟩)
  go_ret
  exact ⟨rfl, rfl⟩
end
theorem strings_Compare_spec (k : Nat) : SpecOk Try.prog GG 136 ⟨(.pair .str .str), (.int .i64), strings_Compare k⟩ := by
  intro Z w vals x r _ _ hx ha
  have hx : Lib.compareBytes x.1.data.toList x.2.data.toList = r := by simpa [strings_Compare] using hx
  simp only [argAV, RepT] at ha
  obtain ⟨v1, l1, e1, h1, h2⟩ := ha
  obtain ⟨v2, rfl, h2⟩ := h2
  have h1 := repV_str h1
  have h2 : v2 = .string x.2 := repV_str (c := cz Z w) (by simpa only [RepV] using h2)
  subst h1; subst h2
  obtain rfl : vals = #[.string x.1, .string x.2] := Array.toList_inj.1 (by simpa using e1)
  refine (cmpOut x.1 x.2 w).mono fun e w' ⟨he, hw⟩ => ⟨_, he, ?_, ?_⟩
  · rw [hw]; exact Go.RowKit.Below.refl _ _
  · rw [hx]; simp [resAV, RepV, RepD, isSt]
theorem mapsOk : mapsB Try.prog [(123, (.int .i64), (.int .i64)), (175, T_types_pair, .bool), (185, T_types_pair_126, .bool)] = true := by kernel_rfl
theorem dmapsOk : dmapsB Try.prog [(176, T_types_pair, T_types_pair), (186, T_types_pair_126, T_types_pair_126)] = true := by kernel_rfl
theorem f67_at : Try.prog.funcs[67]? = some Try.f67 := by kernel_rfl
theorem f67_ok : (Try.f67.name != "runtime.NumGoroutine" && Try.f67.body.isSome) = true := by kernel_rfl
theorem f133_at : Try.prog.funcs[133]? = some Try.f133 := by kernel_rfl
theorem f133_ok : (Try.f133.name != "runtime.NumGoroutine" && Try.f133.body.isSome) = true := by kernel_rfl
theorem f68_at : Try.prog.funcs[68]? = some Try.f68 := by kernel_rfl
theorem f68_ok : (Try.f68.name != "runtime.NumGoroutine" && Try.f68.body.isSome) = true := by kernel_rfl
theorem f69_at : Try.prog.funcs[69]? = some Try.f69 := by kernel_rfl
theorem f69_ok : (Try.f69.name != "runtime.NumGoroutine" && Try.f69.body.isSome) = true := by kernel_rfl
theorem f70_at : Try.prog.funcs[70]? = some Try.f70 := by kernel_rfl
theorem f70_ok : (Try.f70.name != "runtime.NumGoroutine" && Try.f70.body.isSome) = true := by kernel_rfl
theorem f71_at : Try.prog.funcs[71]? = some Try.f71 := by kernel_rfl
theorem f71_ok : (Try.f71.name != "runtime.NumGoroutine" && Try.f71.body.isSome) = true := by kernel_rfl
theorem f72_at : Try.prog.funcs[72]? = some Try.f72 := by kernel_rfl
theorem f72_ok : (Try.f72.name != "runtime.NumGoroutine" && Try.f72.body.isSome) = true := by kernel_rfl
theorem f73_at : Try.prog.funcs[73]? = some Try.f73 := by kernel_rfl
theorem f73_ok : (Try.f73.name != "runtime.NumGoroutine" && Try.f73.body.isSome) = true := by kernel_rfl
theorem f78_at : Try.prog.funcs[78]? = some Try.f78 := by kernel_rfl
theorem f78_ok : (Try.f78.name != "runtime.NumGoroutine" && Try.f78.body.isSome) = true := by kernel_rfl
theorem f138_at : Try.prog.funcs[138]? = some Try.f138 := by kernel_rfl
theorem f138_ok : (Try.f138.name != "runtime.NumGoroutine" && Try.f138.body.isSome) = true := by kernel_rfl
theorem f79_at : Try.prog.funcs[79]? = some Try.f79 := by kernel_rfl
theorem f79_ok : (Try.f79.name != "runtime.NumGoroutine" && Try.f79.body.isSome) = true := by kernel_rfl
theorem f80_at : Try.prog.funcs[80]? = some Try.f80 := by kernel_rfl
theorem f80_ok : (Try.f80.name != "runtime.NumGoroutine" && Try.f80.body.isSome) = true := by kernel_rfl
theorem f81_at : Try.prog.funcs[81]? = some Try.f81 := by kernel_rfl
theorem f81_ok : (Try.f81.name != "runtime.NumGoroutine" && Try.f81.body.isSome) = true := by kernel_rfl
noncomputable def codesS : List (Nat × Func × List (Nat × Hint)) := [(64, Try.f64, []), (132, Try.f132, [(2, ⟨[.var 8 (.d (.int .i64))], [], (some (0, []))⟩)]), (65, Try.f65, []), (134, Try.f134, [(3, ⟨[.var 9 (.d (.int .i64)), .var 10 (.d (.int .i64))], [], (some (0, [.var 9 (.d (.int .i64))]))⟩)]), (135, Try.f135, []), (163, Try.f163, [(3, ⟨[.var 9 (.d (.int .i64)), .var 10 (.d (.int .i64))], [], (some (0, [.var 9 (.d (.int .i64))]))⟩)]), (164, Try.f164, []), (67, Try.f67, [(4, ⟨[.box 6 [] (.o T_types_pair), .box 10 [] (.d (.map T_types_pair .bool)), .box 11 [] (.d (.dmap T_types_pair T_types_pair))], [], (some (0, [.box 10 [] (.d (.map T_types_pair .bool)), .box 11 [] (.d (.dmap T_types_pair T_types_pair))]))⟩)]), (133, Try.f133, []), (68, Try.f68, []), (69, Try.f69, [(3, ⟨[.var 5 (.d .bool), .var 10 (.d (.int .i64)), .box 1 [0, 0, 0, 0, 2] (.d (.map T_types_pair .bool)), .box 1 [0, 0, 0, 0, 3] (.d (.dmap T_types_pair T_types_pair)), .box 1 [0, 0, 1] (.o T_types_pair)], [], (some (0, [.var 5 (.d .bool), .box 1 [0, 0, 0, 0, 2] (.d (.map T_types_pair .bool)), .box 1 [0, 0, 0, 0, 3] (.d (.dmap T_types_pair T_types_pair)), .box 1 [0, 0, 1] (.o T_types_pair)]))⟩)]), (70, Try.f70, []), (71, Try.f71, []), (72, Try.f72, [(3, ⟨[.var 5 (.d .bool), .var 10 (.d (.int .i64)), .box 1 [1, 0, 0, 0, 2] (.d (.map T_types_pair .bool)), .box 1 [1, 0, 0, 0, 3] (.d (.dmap T_types_pair T_types_pair)), .box 1 [1, 0, 1] (.o T_types_pair)], [], (some (0, [.var 5 (.d .bool), .box 1 [1, 0, 0, 0, 2] (.d (.map T_types_pair .bool)), .box 1 [1, 0, 0, 0, 3] (.d (.dmap T_types_pair T_types_pair)), .box 1 [1, 0, 1] (.o T_types_pair)]))⟩)]), (73, Try.f73, [])]
theorem codesSOk : CodesOk Try.prog codesS := .cons f64_at f64_ok <| .cons f132_at f132_ok <| .cons f65_at f65_ok <| .cons f134_at f134_ok <| .cons f135_at f135_ok <| .cons f163_at f163_ok <| .cons f164_at f164_ok <| .cons f67_at f67_ok <| .cons f133_at f133_ok <| .cons f68_at f68_ok <| .cons f69_at f69_ok <| .cons f70_at f70_ok <| .cons f71_at f71_ok <| .cons f72_at f72_ok <| .cons f73_at f73_ok <| .nil
noncomputable def codesI : List (Nat × Func × List (Nat × Hint)) := [(64, Try.f64, []), (132, Try.f132, [(2, ⟨[.var 8 (.d (.int .i64))], [], (some (0, []))⟩)]), (65, Try.f65, []), (134, Try.f134, [(3, ⟨[.var 9 (.d (.int .i64)), .var 10 (.d (.int .i64))], [], (some (0, [.var 9 (.d (.int .i64))]))⟩)]), (135, Try.f135, []), (163, Try.f163, [(3, ⟨[.var 9 (.d (.int .i64)), .var 10 (.d (.int .i64))], [], (some (0, [.var 9 (.d (.int .i64))]))⟩)]), (164, Try.f164, []), (78, Try.f78, [(4, ⟨[.box 6 [] (.o T_types_pair_126), .box 10 [] (.d (.map T_types_pair_126 .bool)), .box 11 [] (.d (.dmap T_types_pair_126 T_types_pair_126))], [], (some (0, [.box 10 [] (.d (.map T_types_pair_126 .bool)), .box 11 [] (.d (.dmap T_types_pair_126 T_types_pair_126))]))⟩)]), (138, Try.f138, []), (79, Try.f79, []), (69, Try.f69, [(3, ⟨[.var 5 (.d .bool), .var 10 (.d (.int .i64)), .box 1 [0, 0, 0, 0, 2] (.d (.map T_types_pair_126 .bool)), .box 1 [0, 0, 0, 0, 3] (.d (.dmap T_types_pair_126 T_types_pair_126)), .box 1 [0, 0, 1] (.o T_types_pair_126)], [], (some (0, [.var 5 (.d .bool), .box 1 [0, 0, 0, 0, 2] (.d (.map T_types_pair_126 .bool)), .box 1 [0, 0, 0, 0, 3] (.d (.dmap T_types_pair_126 T_types_pair_126)), .box 1 [0, 0, 1] (.o T_types_pair_126)]))⟩)]), (80, Try.f80, []), (72, Try.f72, [(3, ⟨[.var 5 (.d .bool), .var 10 (.d (.int .i64)), .box 1 [2, 0, 0, 0, 2] (.d (.map T_types_pair_126 .bool)), .box 1 [2, 0, 0, 0, 3] (.d (.dmap T_types_pair_126 T_types_pair_126)), .box 1 [2, 0, 1] (.o T_types_pair_126)], [], (some (0, [.var 5 (.d .bool), .box 1 [2, 0, 0, 0, 2] (.d (.map T_types_pair_126 .bool)), .box 1 [2, 0, 0, 0, 3] (.d (.dmap T_types_pair_126 T_types_pair_126)), .box 1 [2, 0, 1] (.o T_types_pair_126)]))⟩)]), (81, Try.f81, [])]
theorem codesIOk : CodesOk Try.prog codesI := .cons f64_at f64_ok <| .cons f132_at f132_ok <| .cons f65_at f65_ok <| .cons f134_at f134_ok <| .cons f135_at f135_ok <| .cons f163_at f163_ok <| .cons f164_at f164_ok <| .cons f78_at f78_ok <| .cons f138_at f138_ok <| .cons f79_at f79_ok <| .cons f69_at f69_ok <| .cons f80_at f80_ok <| .cons f72_at f72_ok <| .cons f81_at f81_ok <| .nil
noncomputable abbrev EN (k : Nat) (sp : List (Nat × Go.PG.Spec)) : Go.PG.Env := { T := T, specs := sp, codes := codes, k := k, maps := [(123, (.int .i64), (.int .i64)), (175, T_types_pair, .bool), (185, T_types_pair_126, .bool)], dmaps := [(176, T_types_pair, T_types_pair), (186, T_types_pair_126, T_types_pair_126)] }
noncomputable def types_field : (k : Nat) → (Ty.D (.pair T_api_Type .str)) → Option (Ty.D (.pair (.int .i64) .bool)) := fun (k : Nat) (x : (T_api_Type.pair Ty.str).D) => P.bind (P.iter k (fun (y : Int × Int) => P.cond (P.ilt y.fst y.snd) (P.cond (P.ile ((0 : Int)) ((1 : Int))) (P.cond (P.inb (P.wrap IntKind.i64 (P.shrk IntKind.u64 (P.wrap IntKind.u64 (P.wrap IntKind.i64 (P.add y.fst y.snd))) ((1 : Int)))) (P.len x.fst.snd.fst)) (P.bind (strings_Compare k ((P.get x.fst.snd.fst (P.wrap IntKind.i64 (P.shrk IntKind.u64 (P.wrap IntKind.u64 (P.wrap IntKind.i64 (P.add y.fst y.snd))) ((1 : Int)))) ((ByteArray.mk #[]), (0 : Int))).fst, x.snd)) fun (r : Int) => P.cond (P.ilt r ((0 : Int))) (some (Sum.inl (P.wrap IntKind.i64 (P.add (P.wrap IntKind.i64 (P.shrk IntKind.u64 (P.wrap IntKind.u64 (P.wrap IntKind.i64 (P.add y.fst y.snd))) ((1 : Int)))) ((1 : Int))), y.snd))) (some (Sum.inl (y.fst, P.wrap IntKind.i64 (P.shrk IntKind.u64 (P.wrap IntKind.u64 (P.wrap IntKind.i64 (P.add y.fst y.snd))) ((1 : Int))))))) none) none) (some (Sum.inr (Sum.inl y.fst)))) ((0 : Int), P.len x.fst.snd.fst)) (P.either (fun (z : Int) => P.cond (P.ilt z (P.len x.fst.snd.fst)) (P.cond (P.inb z (P.len x.fst.snd.fst)) (P.bind (strings_Compare k ((P.get x.fst.snd.fst z ((ByteArray.mk #[]), (0 : Int))).fst, x.snd)) fun (r : Int) => P.cond (P.not (P.ieq r ((0 : Int)))) (some ((0 : Int), false)) (P.cond (P.inb z (P.len x.fst.snd.fst)) (some ((P.get x.fst.snd.fst z ((ByteArray.mk #[]), (0 : Int))).snd, true)) none)) none) (P.cond (P.not false) (some ((0 : Int), false)) (P.cond (P.inb z (P.len x.fst.snd.fst)) (some ((P.get x.fst.snd.fst z ((ByteArray.mk #[]), (0 : Int))).snd, true)) none))) fun (r : Int × Bool) => some r)
theorem types_field_eq (k : Nat) (x : (Ty.D (.pair T_api_Type .str))) : evFn (EN k [(136, ⟨(.pair .str .str), (.int .i64), strings_Compare k⟩)]) 6 Try.f74 [] (.pair T_api_Type .str) (.pair (.int .i64) .bool) x = types_field k x := by kernel_rfl
theorem types_field_spec (k : Nat) : SpecOk Try.prog GG 74 ⟨(.pair T_api_Type .str), (.pair (.int .i64) .bool), types_field k⟩ :=
  fn_spec (envOk (E := EN k [(136, ⟨(.pair .str .str), (.int .i64), strings_Compare k⟩)]) tabOk (.cons (strings_Compare_spec k) f136_at f136_ok <| .nil) codesOk mixedOk (fun _ _ _ _ => trivial) (hmp := mapsOk) (hdm := dmapsOk)) f74_at (fun x => (types_field_eq k x).symm)
noncomputable def store_find : (k : Nat) → (Ty.D (.pair T_api_Obj .str)) → Option (Ty.D (.pair (.int .i64) .bool)) := fun (k : Nat) (x : (T_api_Obj.pair Ty.str).D) => P.bind (P.iter k (fun (y : Int × Int) => P.cond (P.ilt y.fst y.snd) (P.cond (P.ile ((0 : Int)) ((1 : Int))) (P.cond (P.inb (P.wrap IntKind.i64 (P.shrk IntKind.u64 (P.wrap IntKind.u64 (P.wrap IntKind.i64 (P.add y.fst y.snd))) ((1 : Int)))) (P.len x.fst.fst)) (P.bind (strings_Compare k ((P.get x.fst.fst (P.wrap IntKind.i64 (P.shrk IntKind.u64 (P.wrap IntKind.u64 (P.wrap IntKind.i64 (P.add y.fst y.snd))) ((1 : Int)))) ((ByteArray.mk #[]), (0 : Int), (0 : Int))).fst, x.snd)) fun (r : Int) => P.cond (P.ilt r ((0 : Int))) (some (Sum.inl (P.wrap IntKind.i64 (P.add (P.wrap IntKind.i64 (P.shrk IntKind.u64 (P.wrap IntKind.u64 (P.wrap IntKind.i64 (P.add y.fst y.snd))) ((1 : Int)))) ((1 : Int))), y.snd))) (some (Sum.inl (y.fst, P.wrap IntKind.i64 (P.shrk IntKind.u64 (P.wrap IntKind.u64 (P.wrap IntKind.i64 (P.add y.fst y.snd))) ((1 : Int))))))) none) none) (some (Sum.inr (Sum.inl y.fst)))) ((0 : Int), P.len x.fst.fst)) (P.either (fun (z : Int) => P.cond (P.ilt z (P.len x.fst.fst)) (P.cond (P.inb z (P.len x.fst.fst)) (P.bind (strings_Compare k ((P.get x.fst.fst z ((ByteArray.mk #[]), (0 : Int), (0 : Int))).fst, x.snd)) fun (r : Int) => some (z, P.ieq r ((0 : Int)))) none) (some (z, false))) fun (r : Int × Bool) => some r)
theorem store_find_eq (k : Nat) (x : (Ty.D (.pair T_api_Obj .str))) : evFn (EN k [(136, ⟨(.pair .str .str), (.int .i64), strings_Compare k⟩)]) 6 Try.f139 [] (.pair T_api_Obj .str) (.pair (.int .i64) .bool) x = store_find k x := by kernel_rfl
theorem store_find_spec (k : Nat) : SpecOk Try.prog GG 139 ⟨(.pair T_api_Obj .str), (.pair (.int .i64) .bool), store_find k⟩ :=
  fn_spec (envOk (E := EN k [(136, ⟨(.pair .str .str), (.int .i64), strings_Compare k⟩)]) tabOk (.cons (strings_Compare_spec k) f136_at f136_ok <| .nil) codesOk mixedOk (fun _ _ _ _ => trivial) (hmp := mapsOk) (hdm := dmapsOk)) f139_at (fun x => (store_find_eq k x).symm)
noncomputable def store_Right : (k : Nat) → (Ty.D (.pair (.slice T_api_Obj) T_api_Val)) → Option (Ty.D .bool) := fun (k : Nat) (x : (T_api_Obj.slice.pair T_api_Val).D) => P.cond (P.ieq x.snd.fst ((0 : Int))) (some (P.ieq x.snd.snd ((0 : Int)))) (P.cond (P.ieq x.snd.fst ((1 : Int))) (P.cond (P.ieq x.snd.snd ((0 : Int))) (some true) (some (P.ieq x.snd.snd ((1 : Int))))) (P.cond (P.ieq x.snd.fst ((2 : Int))) (some true) (P.cond (P.ieq x.snd.fst ((3 : Int))) (some (P.ile ((0 : Int)) x.snd.snd)) (P.cond (P.ieq x.snd.fst ((4 : Int))) (P.cond (P.ile ((0 : Int)) x.snd.snd) (some (P.ilt x.snd.snd (P.len x.fst))) (some false)) (some false)))))
theorem store_Right_eq (k : Nat) (x : (Ty.D (.pair (.slice T_api_Obj) T_api_Val))) : evFn (EN k []) 6 Try.f77 [] (.pair (.slice T_api_Obj) T_api_Val) .bool x = store_Right k x := by kernel_rfl
theorem store_Right_spec (k : Nat) : SpecOk Try.prog GG 77 ⟨(.pair (.slice T_api_Obj) T_api_Val), .bool, store_Right k⟩ :=
  fn_spec (envOk (E := EN k []) tabOk (.nil) codesOk mixedOk (fun _ _ _ _ => trivial) (hmp := mapsOk) (hdm := dmapsOk)) f77_at (fun x => (store_Right_eq k x).symm)
noncomputable def store_Look : (k : Nat) → (Ty.D (.pair (.slice T_api_Obj) (.pair T_api_Val .str))) → Option (Ty.D (.pair T_api_Val .bool)) := fun (k : Nat) (x : (T_api_Obj.slice.pair (T_api_Val.pair Ty.str)).D) => P.bind (P.iter k (fun (y : Int × Int) => P.cond (P.ieq y.fst ((4 : Int))) (P.bind (store_Right k (x.fst, y)) fun (r : Bool) => P.cond r (P.cond (P.inb y.snd (P.len x.fst)) (P.bind (store_find k (P.get x.fst y.snd ([], (0 : Int), (0 : Int)), x.snd.snd)) fun (r : Int × Bool) => P.cond r.snd (P.cond (P.inb r.fst (P.len (P.get x.fst y.snd ([], (0 : Int), (0 : Int))).fst)) (some (Sum.inr (Sum.inr ((P.get (P.get x.fst y.snd ([], (0 : Int), (0 : Int))).fst r.fst ((ByteArray.mk #[]), (0 : Int), (0 : Int))).snd, true)))) none) (some (Sum.inl (P.get x.fst y.snd ([], (0 : Int), (0 : Int))).snd))) none) (some (Sum.inr (Sum.inl PUnit.unit)))) (some (Sum.inr (Sum.inl PUnit.unit)))) x.snd.fst) (P.either (fun (z : PUnit) => some (((0 : Int), (0 : Int)), false)) fun (r : (Int × Int) × Bool) => some r)
theorem store_Look_eq (k : Nat) (x : (Ty.D (.pair (.slice T_api_Obj) (.pair T_api_Val .str)))) : evFn (EN k [(77, ⟨(.pair (.slice T_api_Obj) T_api_Val), .bool, store_Right k⟩), (139, ⟨(.pair T_api_Obj .str), (.pair (.int .i64) .bool), store_find k⟩)]) 6 Try.f82 [(1, ⟨[.box 4 [] (.d (.st (.pair (.int .i64) (.int .i64))))], [6], (some (0, []))⟩)] (.pair (.slice T_api_Obj) (.pair T_api_Val .str)) (.pair T_api_Val .bool) x = store_Look k x := by kernel_rfl
theorem store_Look_spec (k : Nat) : SpecOk Try.prog GG 82 ⟨(.pair (.slice T_api_Obj) (.pair T_api_Val .str)), (.pair T_api_Val .bool), store_Look k⟩ :=
  fn_spec (envOk (E := EN k [(77, ⟨(.pair (.slice T_api_Obj) T_api_Val), .bool, store_Right k⟩), (139, ⟨(.pair T_api_Obj .str), (.pair (.int .i64) .bool), store_find k⟩)]) tabOk (.cons (store_Right_spec k) f77_at f77_ok <| .cons (store_find_spec k) f139_at f139_ok <| .nil) codesOk mixedOk (fun _ _ _ _ => trivial) (hmp := mapsOk) (hdm := dmapsOk)) f82_at (fun x => (store_Look_eq k x).symm)
noncomputable def ref24_Small : (k : Nat) → (Ty.D (.slice T_api_Type)) → Option (Ty.D .bool) := fun (k : Nat) (x : T_api_Type.slice.D) => P.bind (P.iter k (fun (y : Int) => P.cond (P.ilt y (P.len x)) (P.cond (P.inb y (P.len x)) (P.cond (P.ilt ((10 : Int)) (P.len (P.get x y ((0 : Int), [], [])).snd.fst)) (some (Sum.inr (Sum.inr false))) (P.cond (P.inb y (P.len x)) (P.cond (P.ilt ((10 : Int)) (P.len (P.get x y ((0 : Int), [], [])).snd.snd)) (some (Sum.inr (Sum.inr false))) (some (Sum.inl (P.wrap IntKind.i64 (P.add y ((1 : Int))))))) none)) none) (some (Sum.inr (Sum.inl PUnit.unit)))) ((0 : Int))) (P.either (fun (z : PUnit) => some (P.ile (P.len x) ((16 : Int)))) fun (r : Bool) => some r)
theorem ref24_Small_eq (k : Nat) (x : (Ty.D (.slice T_api_Type))) : evFn (EN k []) 6 Try.f15 [(2, ⟨[.var 3 (.d (.int .i64))], [], (some (0, []))⟩)] (.slice T_api_Type) .bool x = ref24_Small k x := by kernel_rfl
theorem ref24_Small_spec (k : Nat) : SpecOk Try.prog GG 15 ⟨(.slice T_api_Type), .bool, ref24_Small k⟩ :=
  fn_spec (envOk (E := EN k []) tabOk (.nil) codesOk mixedOk (fun _ _ _ _ => trivial) (hmp := mapsOk) (hdm := dmapsOk)) f15_at (fun x => (ref24_Small_eq k x).symm)
noncomputable def types_May : (k : Nat) → (Ty.D (.slice T_api_Type)) → Option (Ty.D .bool) := fun (k : Nat) (x : T_api_Type.slice.D) => P.bind (P.iter k (fun (y : Int) => P.cond (P.ilt y (P.len x)) (P.cond (P.inb y (P.len x)) (P.cond (P.ilt (P.get x y ((0 : Int), [], [])).fst ((0 : Int))) (some (Sum.inr (Sum.inr false))) (P.cond (P.ile ((6 : Int)) (P.get x y ((0 : Int), [], [])).fst) (some (Sum.inr (Sum.inr false))) (P.cond (P.not (P.ieq (P.get x y ((0 : Int), [], [])).fst ((4 : Int)))) (P.cond (P.ilt ((0 : Int)) (P.len (P.get x y ((0 : Int), [], [])).snd.fst)) (some (Sum.inr (Sum.inr false))) (P.cond (P.not (P.ieq (P.get x y ((0 : Int), [], [])).fst ((5 : Int)))) (P.cond (P.ilt ((0 : Int)) (P.len (P.get x y ((0 : Int), [], [])).snd.snd)) (some (Sum.inr (Sum.inr false))) (P.bind (P.iter k (fun (y_1 : Int) => P.cond (P.ilt y_1 (P.len (P.get x y ((0 : Int), [], [])).snd.fst)) (P.cond (P.inb y_1 (P.len (P.get x y ((0 : Int), [], [])).snd.fst)) (P.cond (P.ilt (P.get (P.get x y ((0 : Int), [], [])).snd.fst y_1 ((ByteArray.mk #[]), (0 : Int))).snd ((0 : Int))) (some (Sum.inr (Sum.inr (Sum.inr (Sum.inr false))))) (P.cond (P.ile (P.len x) (P.get (P.get x y ((0 : Int), [], [])).snd.fst y_1 ((ByteArray.mk #[]), (0 : Int))).snd) (some (Sum.inr (Sum.inr (Sum.inr (Sum.inr false))))) (P.cond (P.ilt ((0 : Int)) y_1) (P.cond (P.inb (P.wrap IntKind.i64 (P.sub y_1 ((1 : Int)))) (P.len (P.get x y ((0 : Int), [], [])).snd.fst)) (P.cond (P.not (P.slt (P.get (P.get x y ((0 : Int), [], [])).snd.fst (P.wrap IntKind.i64 (P.sub y_1 ((1 : Int)))) ((ByteArray.mk #[]), (0 : Int))).fst (P.get (P.get x y ((0 : Int), [], [])).snd.fst y_1 ((ByteArray.mk #[]), (0 : Int))).fst)) (some (Sum.inr (Sum.inr (Sum.inr (Sum.inr false))))) (some (Sum.inl (P.wrap IntKind.i64 (P.add y_1 ((1 : Int))))))) none) (some (Sum.inl (P.wrap IntKind.i64 (P.add y_1 ((1 : Int))))))))) none) (some (Sum.inr (Sum.inl PUnit.unit)))) ((0 : Int))) (P.either (fun (z : PUnit) => P.bind (P.iter k (fun (y_1 : Int) => P.cond (P.ilt y_1 (P.len (P.get x y ((0 : Int), [], [])).snd.snd)) (P.cond (P.inb y_1 (P.len (P.get x y ((0 : Int), [], [])).snd.snd)) (P.cond (P.ilt (P.get (P.get x y ((0 : Int), [], [])).snd.snd y_1 ((0 : Int))) ((0 : Int))) (P.map (fun (r : Int ⊕ PUnit ⊕ Bool) => Sum.inr (Sum.inr r)) (P.cond (P.ile ((0 : Int)) y_1) (some (Sum.inr (Sum.inr false))) (some (Sum.inl (P.wrap IntKind.i64 (P.add y ((1 : Int)))))))) (P.cond (P.ile y (P.get (P.get x y ((0 : Int), [], [])).snd.snd y_1 ((0 : Int)))) (P.map (fun (r : Int ⊕ PUnit ⊕ Bool) => Sum.inr (Sum.inr r)) (P.cond (P.ile ((0 : Int)) y_1) (some (Sum.inr (Sum.inr false))) (some (Sum.inl (P.wrap IntKind.i64 (P.add y ((1 : Int)))))))) (some (Sum.inl (P.wrap IntKind.i64 (P.add y_1 ((1 : Int)))))))) none) (some (Sum.inr (Sum.inl PUnit.unit)))) ((0 : Int))) (P.either (fun (z : PUnit) => P.cond (P.ile ((0 : Int)) ((-1 : Int))) (some (Sum.inr (Sum.inr false))) (some (Sum.inl (P.wrap IntKind.i64 (P.add y ((1 : Int))))))) fun (r : Int ⊕ PUnit ⊕ Bool) => some r)) fun (r : Int ⊕ PUnit ⊕ Bool) => some r))) (P.bind (P.iter k (fun (y_1 : Int) => P.cond (P.ilt y_1 (P.len (P.get x y ((0 : Int), [], [])).snd.fst)) (P.cond (P.inb y_1 (P.len (P.get x y ((0 : Int), [], [])).snd.fst)) (P.cond (P.ilt (P.get (P.get x y ((0 : Int), [], [])).snd.fst y_1 ((ByteArray.mk #[]), (0 : Int))).snd ((0 : Int))) (some (Sum.inr (Sum.inr (Sum.inr (Sum.inr false))))) (P.cond (P.ile (P.len x) (P.get (P.get x y ((0 : Int), [], [])).snd.fst y_1 ((ByteArray.mk #[]), (0 : Int))).snd) (some (Sum.inr (Sum.inr (Sum.inr (Sum.inr false))))) (P.cond (P.ilt ((0 : Int)) y_1) (P.cond (P.inb (P.wrap IntKind.i64 (P.sub y_1 ((1 : Int)))) (P.len (P.get x y ((0 : Int), [], [])).snd.fst)) (P.cond (P.not (P.slt (P.get (P.get x y ((0 : Int), [], [])).snd.fst (P.wrap IntKind.i64 (P.sub y_1 ((1 : Int)))) ((ByteArray.mk #[]), (0 : Int))).fst (P.get (P.get x y ((0 : Int), [], [])).snd.fst y_1 ((ByteArray.mk #[]), (0 : Int))).fst)) (some (Sum.inr (Sum.inr (Sum.inr (Sum.inr false))))) (some (Sum.inl (P.wrap IntKind.i64 (P.add y_1 ((1 : Int))))))) none) (some (Sum.inl (P.wrap IntKind.i64 (P.add y_1 ((1 : Int))))))))) none) (some (Sum.inr (Sum.inl PUnit.unit)))) ((0 : Int))) (P.either (fun (z : PUnit) => P.bind (P.iter k (fun (y_1 : Int) => P.cond (P.ilt y_1 (P.len (P.get x y ((0 : Int), [], [])).snd.snd)) (P.cond (P.inb y_1 (P.len (P.get x y ((0 : Int), [], [])).snd.snd)) (P.cond (P.ilt (P.get (P.get x y ((0 : Int), [], [])).snd.snd y_1 ((0 : Int))) ((0 : Int))) (P.map (fun (r : Int ⊕ PUnit ⊕ Bool) => Sum.inr (Sum.inr r)) (P.cond (P.ile ((0 : Int)) y_1) (some (Sum.inr (Sum.inr false))) (some (Sum.inl (P.wrap IntKind.i64 (P.add y ((1 : Int)))))))) (P.cond (P.ile y (P.get (P.get x y ((0 : Int), [], [])).snd.snd y_1 ((0 : Int)))) (P.map (fun (r : Int ⊕ PUnit ⊕ Bool) => Sum.inr (Sum.inr r)) (P.cond (P.ile ((0 : Int)) y_1) (some (Sum.inr (Sum.inr false))) (some (Sum.inl (P.wrap IntKind.i64 (P.add y ((1 : Int)))))))) (some (Sum.inl (P.wrap IntKind.i64 (P.add y_1 ((1 : Int)))))))) none) (some (Sum.inr (Sum.inl PUnit.unit)))) ((0 : Int))) (P.either (fun (z : PUnit) => P.cond (P.ile ((0 : Int)) ((-1 : Int))) (some (Sum.inr (Sum.inr false))) (some (Sum.inl (P.wrap IntKind.i64 (P.add y ((1 : Int))))))) fun (r : Int ⊕ PUnit ⊕ Bool) => some r)) fun (r : Int ⊕ PUnit ⊕ Bool) => some r)))) (P.cond (P.not (P.ieq (P.get x y ((0 : Int), [], [])).fst ((5 : Int)))) (P.cond (P.ilt ((0 : Int)) (P.len (P.get x y ((0 : Int), [], [])).snd.snd)) (some (Sum.inr (Sum.inr false))) (P.bind (P.iter k (fun (y_1 : Int) => P.cond (P.ilt y_1 (P.len (P.get x y ((0 : Int), [], [])).snd.fst)) (P.cond (P.inb y_1 (P.len (P.get x y ((0 : Int), [], [])).snd.fst)) (P.cond (P.ilt (P.get (P.get x y ((0 : Int), [], [])).snd.fst y_1 ((ByteArray.mk #[]), (0 : Int))).snd ((0 : Int))) (some (Sum.inr (Sum.inr (Sum.inr (Sum.inr false))))) (P.cond (P.ile (P.len x) (P.get (P.get x y ((0 : Int), [], [])).snd.fst y_1 ((ByteArray.mk #[]), (0 : Int))).snd) (some (Sum.inr (Sum.inr (Sum.inr (Sum.inr false))))) (P.cond (P.ilt ((0 : Int)) y_1) (P.cond (P.inb (P.wrap IntKind.i64 (P.sub y_1 ((1 : Int)))) (P.len (P.get x y ((0 : Int), [], [])).snd.fst)) (P.cond (P.not (P.slt (P.get (P.get x y ((0 : Int), [], [])).snd.fst (P.wrap IntKind.i64 (P.sub y_1 ((1 : Int)))) ((ByteArray.mk #[]), (0 : Int))).fst (P.get (P.get x y ((0 : Int), [], [])).snd.fst y_1 ((ByteArray.mk #[]), (0 : Int))).fst)) (some (Sum.inr (Sum.inr (Sum.inr (Sum.inr false))))) (some (Sum.inl (P.wrap IntKind.i64 (P.add y_1 ((1 : Int))))))) none) (some (Sum.inl (P.wrap IntKind.i64 (P.add y_1 ((1 : Int))))))))) none) (some (Sum.inr (Sum.inl PUnit.unit)))) ((0 : Int))) (P.either (fun (z : PUnit) => P.bind (P.iter k (fun (y_1 : Int) => P.cond (P.ilt y_1 (P.len (P.get x y ((0 : Int), [], [])).snd.snd)) (P.cond (P.inb y_1 (P.len (P.get x y ((0 : Int), [], [])).snd.snd)) (P.cond (P.ilt (P.get (P.get x y ((0 : Int), [], [])).snd.snd y_1 ((0 : Int))) ((0 : Int))) (P.map (fun (r : Int ⊕ PUnit ⊕ Bool) => Sum.inr (Sum.inr r)) (P.cond (P.ile ((0 : Int)) y_1) (some (Sum.inr (Sum.inr false))) (some (Sum.inl (P.wrap IntKind.i64 (P.add y ((1 : Int)))))))) (P.cond (P.ile y (P.get (P.get x y ((0 : Int), [], [])).snd.snd y_1 ((0 : Int)))) (P.map (fun (r : Int ⊕ PUnit ⊕ Bool) => Sum.inr (Sum.inr r)) (P.cond (P.ile ((0 : Int)) y_1) (some (Sum.inr (Sum.inr false))) (some (Sum.inl (P.wrap IntKind.i64 (P.add y ((1 : Int)))))))) (some (Sum.inl (P.wrap IntKind.i64 (P.add y_1 ((1 : Int)))))))) none) (some (Sum.inr (Sum.inl PUnit.unit)))) ((0 : Int))) (P.either (fun (z : PUnit) => P.cond (P.ile ((0 : Int)) ((-1 : Int))) (some (Sum.inr (Sum.inr false))) (some (Sum.inl (P.wrap IntKind.i64 (P.add y ((1 : Int))))))) fun (r : Int ⊕ PUnit ⊕ Bool) => some r)) fun (r : Int ⊕ PUnit ⊕ Bool) => some r))) (P.bind (P.iter k (fun (y_1 : Int) => P.cond (P.ilt y_1 (P.len (P.get x y ((0 : Int), [], [])).snd.fst)) (P.cond (P.inb y_1 (P.len (P.get x y ((0 : Int), [], [])).snd.fst)) (P.cond (P.ilt (P.get (P.get x y ((0 : Int), [], [])).snd.fst y_1 ((ByteArray.mk #[]), (0 : Int))).snd ((0 : Int))) (some (Sum.inr (Sum.inr (Sum.inr (Sum.inr false))))) (P.cond (P.ile (P.len x) (P.get (P.get x y ((0 : Int), [], [])).snd.fst y_1 ((ByteArray.mk #[]), (0 : Int))).snd) (some (Sum.inr (Sum.inr (Sum.inr (Sum.inr false))))) (P.cond (P.ilt ((0 : Int)) y_1) (P.cond (P.inb (P.wrap IntKind.i64 (P.sub y_1 ((1 : Int)))) (P.len (P.get x y ((0 : Int), [], [])).snd.fst)) (P.cond (P.not (P.slt (P.get (P.get x y ((0 : Int), [], [])).snd.fst (P.wrap IntKind.i64 (P.sub y_1 ((1 : Int)))) ((ByteArray.mk #[]), (0 : Int))).fst (P.get (P.get x y ((0 : Int), [], [])).snd.fst y_1 ((ByteArray.mk #[]), (0 : Int))).fst)) (some (Sum.inr (Sum.inr (Sum.inr (Sum.inr false))))) (some (Sum.inl (P.wrap IntKind.i64 (P.add y_1 ((1 : Int))))))) none) (some (Sum.inl (P.wrap IntKind.i64 (P.add y_1 ((1 : Int))))))))) none) (some (Sum.inr (Sum.inl PUnit.unit)))) ((0 : Int))) (P.either (fun (z : PUnit) => P.bind (P.iter k (fun (y_1 : Int) => P.cond (P.ilt y_1 (P.len (P.get x y ((0 : Int), [], [])).snd.snd)) (P.cond (P.inb y_1 (P.len (P.get x y ((0 : Int), [], [])).snd.snd)) (P.cond (P.ilt (P.get (P.get x y ((0 : Int), [], [])).snd.snd y_1 ((0 : Int))) ((0 : Int))) (P.map (fun (r : Int ⊕ PUnit ⊕ Bool) => Sum.inr (Sum.inr r)) (P.cond (P.ile ((0 : Int)) y_1) (some (Sum.inr (Sum.inr false))) (some (Sum.inl (P.wrap IntKind.i64 (P.add y ((1 : Int)))))))) (P.cond (P.ile y (P.get (P.get x y ((0 : Int), [], [])).snd.snd y_1 ((0 : Int)))) (P.map (fun (r : Int ⊕ PUnit ⊕ Bool) => Sum.inr (Sum.inr r)) (P.cond (P.ile ((0 : Int)) y_1) (some (Sum.inr (Sum.inr false))) (some (Sum.inl (P.wrap IntKind.i64 (P.add y ((1 : Int)))))))) (some (Sum.inl (P.wrap IntKind.i64 (P.add y_1 ((1 : Int)))))))) none) (some (Sum.inr (Sum.inl PUnit.unit)))) ((0 : Int))) (P.either (fun (z : PUnit) => P.cond (P.ile ((0 : Int)) ((-1 : Int))) (some (Sum.inr (Sum.inr false))) (some (Sum.inl (P.wrap IntKind.i64 (P.add y ((1 : Int))))))) fun (r : Int ⊕ PUnit ⊕ Bool) => some r)) fun (r : Int ⊕ PUnit ⊕ Bool) => some r)))))) none) (some (Sum.inr (Sum.inl PUnit.unit)))) ((0 : Int))) (P.either (fun (z : PUnit) => some (P.ile (P.len x) ((200 : Int)))) fun (r : Bool) => some r)
theorem types_May_eq (k : Nat) (x : (Ty.D (.slice T_api_Type))) : evFn (EN k []) 6 Try.f17 [(2, ⟨[.var 9 (.d (.int .i64))], [], (some (0, []))⟩), (7, ⟨[.var 47 (.d (.int .i64))], [], (some (2, []))⟩)] (.slice T_api_Type) .bool x = types_May k x := by kernel_rfl
theorem types_May_spec (k : Nat) : SpecOk Try.prog GG 17 ⟨(.slice T_api_Type), .bool, types_May k⟩ :=
  fn_spec (envOk (E := EN k []) tabOk (.nil) codesOk mixedOk (fun _ _ _ _ => trivial) (hmp := mapsOk) (hdm := dmapsOk)) f17_at (fun x => (types_May_eq k x).symm)
noncomputable def types_place : (k : Nat) → (Ty.D (.pair (.slice T_api_Type) (.int .i64))) → Option (Ty.D .bool) := fun (k : Nat) (x : (T_api_Type.slice.pair (Ty.int IntKind.i64)).D) => P.cond (P.ile ((0 : Int)) x.snd) (some (P.ilt x.snd (P.len x.fst))) (some false)
theorem types_place_eq (k : Nat) (x : (Ty.D (.pair (.slice T_api_Type) (.int .i64)))) : evFn (EN k []) 6 Try.f66 [] (.pair (.slice T_api_Type) (.int .i64)) .bool x = types_place k x := by kernel_rfl
theorem types_place_spec (k : Nat) : SpecOk Try.prog GG 66 ⟨(.pair (.slice T_api_Type) (.int .i64)), .bool, types_place k⟩ :=
  fn_spec (envOk (E := EN k []) tabOk (.nil) codesOk mixedOk (fun _ _ _ _ => trivial) (hmp := mapsOk) (hdm := dmapsOk)) f66_at (fun x => (types_place_eq k x).symm)
noncomputable def types_Sub : (k : Nat) → (Ty.D (.pair (.slice T_api_Type) (.pair (.int .i64) (.int .i64)))) → Option (Ty.D .bool) := fun (k : Nat) (x : (T_api_Type.slice.pair ((Ty.int IntKind.i64).pair (Ty.int IntKind.i64))).D) => P.bind (types_May k x.fst) fun (r : Bool) => P.cond (P.not r) (some false) (P.bind (types_place k (x.fst, x.snd.fst)) fun (r : Bool) => P.cond (P.not r) (some false) (P.bind (types_place k (x.fst, x.snd.snd)) fun (r : Bool) => P.cond (P.not r) (some false) (P.bind (P.iter k (fun (y : List (Int × Int) × List ((Int × Int) × Bool) × List ((Int × Int) × Option (List (Int × Int)))) => P.cond (P.ilt ((0 : Int)) (P.len y.fst)) (P.cond (P.inb (P.wrap IntKind.i64 (P.sub (P.len y.fst) ((1 : Int)))) (P.len y.fst)) (P.cond (P.cut ((0 : Int)) (P.wrap IntKind.i64 (P.sub (P.len y.fst) ((1 : Int)))) (P.len y.fst)) (P.cond (P.not (P.mval (fun (x y : Int × Int) => P.and (P.ieq x.fst y.fst) (P.ieq x.snd y.snd)) y.snd.fst (P.get y.fst (P.wrap IntKind.i64 (P.sub (P.len y.fst) ((1 : Int)))) ((0 : Int), (0 : Int))) false)) (some (Sum.inl (P.sub_ y.fst ((0 : Int)) (P.wrap IntKind.i64 (P.sub (P.len y.fst) ((1 : Int)))), y.snd.fst, y.snd.snd))) (P.cond (P.inb (P.get y.fst (P.wrap IntKind.i64 (P.sub (P.len y.fst) ((1 : Int)))) ((0 : Int), (0 : Int))).fst (P.len x.fst)) (P.cond (P.inb (P.get y.fst (P.wrap IntKind.i64 (P.sub (P.len y.fst) ((1 : Int)))) ((0 : Int), (0 : Int))).snd (P.len x.fst)) (P.cond (P.ieq (P.get x.fst (P.get y.fst (P.wrap IntKind.i64 (P.sub (P.len y.fst) ((1 : Int)))) ((0 : Int), (0 : Int))).fst ((0 : Int), [], [])).fst ((5 : Int))) (P.bind (P.iter k (fun (y_1 : Bool × Int × List ((Int × Int) × Bool) × List ((Int × Int) × Option (List (Int × Int))) × List (Int × Int)) => P.cond (P.ilt y_1.snd.fst (P.len (P.get x.fst (P.get y.fst (P.wrap IntKind.i64 (P.sub (P.len y.fst) ((1 : Int)))) ((0 : Int), (0 : Int))).fst ((0 : Int), [], [])).snd.snd)) (P.cond (P.inb y_1.snd.fst (P.len (P.get x.fst (P.get y.fst (P.wrap IntKind.i64 (P.sub (P.len y.fst) ((1 : Int)))) ((0 : Int), (0 : Int))).fst ((0 : Int), [], [])).snd.snd)) (P.cond (P.not (P.mhas (fun (x y : Int × Int) => P.and (P.ieq x.fst y.fst) (P.ieq x.snd y.snd)) y_1.snd.snd.fst (P.get (P.get x.fst (P.get y.fst (P.wrap IntKind.i64 (P.sub (P.len y.fst) ((1 : Int)))) ((0 : Int), (0 : Int))).fst ((0 : Int), [], [])).snd.snd y_1.snd.fst ((0 : Int)), (P.get y.fst (P.wrap IntKind.i64 (P.sub (P.len y.fst) ((1 : Int)))) ((0 : Int), (0 : Int))).snd))) (P.cond (P.room (P.add (P.len y_1.snd.snd.snd.snd) (P.len [(P.get (P.get x.fst (P.get y.fst (P.wrap IntKind.i64 (P.sub (P.len y.fst) ((1 : Int)))) ((0 : Int), (0 : Int))).fst ((0 : Int), [], [])).snd.snd y_1.snd.fst ((0 : Int)), (P.get y.fst (P.wrap IntKind.i64 (P.sub (P.len y.fst) ((1 : Int)))) ((0 : Int), (0 : Int))).snd)])) 16) (P.bind (P.dget (fun (x y : Int × Int) => P.and (P.ieq x.fst y.fst) (P.ieq x.snd y.snd)) y_1.snd.snd.snd.fst (P.get (P.get x.fst (P.get y.fst (P.wrap IntKind.i64 (P.sub (P.len y.fst) ((1 : Int)))) ((0 : Int), (0 : Int))).fst ((0 : Int), [], [])).snd.snd y_1.snd.fst ((0 : Int)), (P.get y.fst (P.wrap IntKind.i64 (P.sub (P.len y.fst) ((1 : Int)))) ((0 : Int), (0 : Int))).snd)) fun (ys : List (Int × Int)) => P.cond (P.room (P.add (P.len ys) (P.len [P.get y.fst (P.wrap IntKind.i64 (P.sub (P.len y.fst) ((1 : Int)))) ((0 : Int), (0 : Int))])) 16) (some (Sum.inl (y_1.fst, P.wrap IntKind.i64 (P.add y_1.snd.fst ((1 : Int))), P.mput (fun (x y : Int × Int) => P.and (P.ieq x.fst y.fst) (P.ieq x.snd y.snd)) y_1.snd.snd.fst (P.get (P.get x.fst (P.get y.fst (P.wrap IntKind.i64 (P.sub (P.len y.fst) ((1 : Int)))) ((0 : Int), (0 : Int))).fst ((0 : Int), [], [])).snd.snd y_1.snd.fst ((0 : Int)), (P.get y.fst (P.wrap IntKind.i64 (P.sub (P.len y.fst) ((1 : Int)))) ((0 : Int), (0 : Int))).snd) true, P.mput (fun (x y : Int × Int) => P.and (P.ieq x.fst y.fst) (P.ieq x.snd y.snd)) (P.dtake (fun (x y : Int × Int) => P.and (P.ieq x.fst y.fst) (P.ieq x.snd y.snd)) y_1.snd.snd.snd.fst (P.get (P.get x.fst (P.get y.fst (P.wrap IntKind.i64 (P.sub (P.len y.fst) ((1 : Int)))) ((0 : Int), (0 : Int))).fst ((0 : Int), [], [])).snd.snd y_1.snd.fst ((0 : Int)), (P.get y.fst (P.wrap IntKind.i64 (P.sub (P.len y.fst) ((1 : Int)))) ((0 : Int), (0 : Int))).snd)) (P.get (P.get x.fst (P.get y.fst (P.wrap IntKind.i64 (P.sub (P.len y.fst) ((1 : Int)))) ((0 : Int), (0 : Int))).fst ((0 : Int), [], [])).snd.snd y_1.snd.fst ((0 : Int)), (P.get y.fst (P.wrap IntKind.i64 (P.sub (P.len y.fst) ((1 : Int)))) ((0 : Int), (0 : Int))).snd) (some (P.app ys [P.get y.fst (P.wrap IntKind.i64 (P.sub (P.len y.fst) ((1 : Int)))) ((0 : Int), (0 : Int))])), P.app y_1.snd.snd.snd.snd [(P.get (P.get x.fst (P.get y.fst (P.wrap IntKind.i64 (P.sub (P.len y.fst) ((1 : Int)))) ((0 : Int), (0 : Int))).fst ((0 : Int), [], [])).snd.snd y_1.snd.fst ((0 : Int)), (P.get y.fst (P.wrap IntKind.i64 (P.sub (P.len y.fst) ((1 : Int)))) ((0 : Int), (0 : Int))).snd)]))) none) none) (P.bind (P.dget (fun (x y : Int × Int) => P.and (P.ieq x.fst y.fst) (P.ieq x.snd y.snd)) y_1.snd.snd.snd.fst (P.get (P.get x.fst (P.get y.fst (P.wrap IntKind.i64 (P.sub (P.len y.fst) ((1 : Int)))) ((0 : Int), (0 : Int))).fst ((0 : Int), [], [])).snd.snd y_1.snd.fst ((0 : Int)), (P.get y.fst (P.wrap IntKind.i64 (P.sub (P.len y.fst) ((1 : Int)))) ((0 : Int), (0 : Int))).snd)) fun (ys : List (Int × Int)) => P.cond (P.room (P.add (P.len ys) (P.len [P.get y.fst (P.wrap IntKind.i64 (P.sub (P.len y.fst) ((1 : Int)))) ((0 : Int), (0 : Int))])) 16) (P.cond (P.mval (fun (x y : Int × Int) => P.and (P.ieq x.fst y.fst) (P.ieq x.snd y.snd)) y_1.snd.snd.fst (P.get (P.get x.fst (P.get y.fst (P.wrap IntKind.i64 (P.sub (P.len y.fst) ((1 : Int)))) ((0 : Int), (0 : Int))).fst ((0 : Int), [], [])).snd.snd y_1.snd.fst ((0 : Int)), (P.get y.fst (P.wrap IntKind.i64 (P.sub (P.len y.fst) ((1 : Int)))) ((0 : Int), (0 : Int))).snd) false) (some (Sum.inl (y_1.fst, P.wrap IntKind.i64 (P.add y_1.snd.fst ((1 : Int))), y_1.snd.snd.fst, P.mput (fun (x y : Int × Int) => P.and (P.ieq x.fst y.fst) (P.ieq x.snd y.snd)) (P.dtake (fun (x y : Int × Int) => P.and (P.ieq x.fst y.fst) (P.ieq x.snd y.snd)) y_1.snd.snd.snd.fst (P.get (P.get x.fst (P.get y.fst (P.wrap IntKind.i64 (P.sub (P.len y.fst) ((1 : Int)))) ((0 : Int), (0 : Int))).fst ((0 : Int), [], [])).snd.snd y_1.snd.fst ((0 : Int)), (P.get y.fst (P.wrap IntKind.i64 (P.sub (P.len y.fst) ((1 : Int)))) ((0 : Int), (0 : Int))).snd)) (P.get (P.get x.fst (P.get y.fst (P.wrap IntKind.i64 (P.sub (P.len y.fst) ((1 : Int)))) ((0 : Int), (0 : Int))).fst ((0 : Int), [], [])).snd.snd y_1.snd.fst ((0 : Int)), (P.get y.fst (P.wrap IntKind.i64 (P.sub (P.len y.fst) ((1 : Int)))) ((0 : Int), (0 : Int))).snd) (some (P.app ys [P.get y.fst (P.wrap IntKind.i64 (P.sub (P.len y.fst) ((1 : Int)))) ((0 : Int), (0 : Int))])), y_1.snd.snd.snd.snd))) (some (Sum.inl (false, P.wrap IntKind.i64 (P.add y_1.snd.fst ((1 : Int))), y_1.snd.snd.fst, P.mput (fun (x y : Int × Int) => P.and (P.ieq x.fst y.fst) (P.ieq x.snd y.snd)) (P.dtake (fun (x y : Int × Int) => P.and (P.ieq x.fst y.fst) (P.ieq x.snd y.snd)) y_1.snd.snd.snd.fst (P.get (P.get x.fst (P.get y.fst (P.wrap IntKind.i64 (P.sub (P.len y.fst) ((1 : Int)))) ((0 : Int), (0 : Int))).fst ((0 : Int), [], [])).snd.snd y_1.snd.fst ((0 : Int)), (P.get y.fst (P.wrap IntKind.i64 (P.sub (P.len y.fst) ((1 : Int)))) ((0 : Int), (0 : Int))).snd)) (P.get (P.get x.fst (P.get y.fst (P.wrap IntKind.i64 (P.sub (P.len y.fst) ((1 : Int)))) ((0 : Int), (0 : Int))).fst ((0 : Int), [], [])).snd.snd y_1.snd.fst ((0 : Int)), (P.get y.fst (P.wrap IntKind.i64 (P.sub (P.len y.fst) ((1 : Int)))) ((0 : Int), (0 : Int))).snd) (some (P.app ys [P.get y.fst (P.wrap IntKind.i64 (P.sub (P.len y.fst) ((1 : Int)))) ((0 : Int), (0 : Int))])), y_1.snd.snd.snd.snd)))) none)) none) (some (Sum.inr (Sum.inl (y_1.fst, y_1.snd.snd.fst, y_1.snd.snd.snd.fst, y_1.snd.snd.snd.snd))))) (true, (0 : Int), y.snd.fst, y.snd.snd, P.sub_ y.fst ((0 : Int)) (P.wrap IntKind.i64 (P.sub (P.len y.fst) ((1 : Int)))))) (P.either (fun (z : Bool × List ((Int × Int) × Bool) × List ((Int × Int) × Option (List (Int × Int))) × List (Int × Int)) => P.cond z.fst (some (Sum.inl (z.snd.snd.snd, z.snd.fst, z.snd.snd.fst))) (P.bind (P.dget (fun (x y : Int × Int) => P.and (P.ieq x.fst y.fst) (P.ieq x.snd y.snd)) z.snd.snd.fst (P.get y.fst (P.wrap IntKind.i64 (P.sub (P.len y.fst) ((1 : Int)))) ((0 : Int), (0 : Int)))) fun (ys : List (Int × Int)) => P.cond (P.room (P.add (P.len z.snd.snd.snd) (P.len ys)) 16) (some (Sum.inl (P.app z.snd.snd.snd ys, P.mput (fun (x y : Int × Int) => P.and (P.ieq x.fst y.fst) (P.ieq x.snd y.snd)) z.snd.fst (P.get y.fst (P.wrap IntKind.i64 (P.sub (P.len y.fst) ((1 : Int)))) ((0 : Int), (0 : Int))) false, P.mdel (fun (x y : Int × Int) => P.and (P.ieq x.fst y.fst) (P.ieq x.snd y.snd)) (P.dtake (fun (x y : Int × Int) => P.and (P.ieq x.fst y.fst) (P.ieq x.snd y.snd)) z.snd.snd.fst (P.get y.fst (P.wrap IntKind.i64 (P.sub (P.len y.fst) ((1 : Int)))) ((0 : Int), (0 : Int)))) (P.get y.fst (P.wrap IntKind.i64 (P.sub (P.len y.fst) ((1 : Int)))) ((0 : Int), (0 : Int)))))) none)) fun (r : List (Int × Int) × List ((Int × Int) × Bool) × List ((Int × Int) × Option (List (Int × Int))) ⊕ List ((Int × Int) × Bool) × List ((Int × Int) × Option (List (Int × Int))) ⊕ Bool) => some r)) (P.cond (P.ieq (P.get x.fst (P.get y.fst (P.wrap IntKind.i64 (P.sub (P.len y.fst) ((1 : Int)))) ((0 : Int), (0 : Int))).snd ((0 : Int), [], [])).fst ((5 : Int))) (P.bind (P.iter k (fun (y_1 : Bool × Int × List ((Int × Int) × Bool) × List ((Int × Int) × Option (List (Int × Int))) × List (Int × Int)) => P.cond (P.ilt y_1.snd.fst (P.len (P.get x.fst (P.get y.fst (P.wrap IntKind.i64 (P.sub (P.len y.fst) ((1 : Int)))) ((0 : Int), (0 : Int))).snd ((0 : Int), [], [])).snd.snd)) (P.cond (P.inb y_1.snd.fst (P.len (P.get x.fst (P.get y.fst (P.wrap IntKind.i64 (P.sub (P.len y.fst) ((1 : Int)))) ((0 : Int), (0 : Int))).snd ((0 : Int), [], [])).snd.snd)) (P.cond (P.not (P.mhas (fun (x y : Int × Int) => P.and (P.ieq x.fst y.fst) (P.ieq x.snd y.snd)) y_1.snd.snd.fst ((P.get y.fst (P.wrap IntKind.i64 (P.sub (P.len y.fst) ((1 : Int)))) ((0 : Int), (0 : Int))).fst, P.get (P.get x.fst (P.get y.fst (P.wrap IntKind.i64 (P.sub (P.len y.fst) ((1 : Int)))) ((0 : Int), (0 : Int))).snd ((0 : Int), [], [])).snd.snd y_1.snd.fst ((0 : Int))))) (P.cond (P.room (P.add (P.len y_1.snd.snd.snd.snd) (P.len [((P.get y.fst (P.wrap IntKind.i64 (P.sub (P.len y.fst) ((1 : Int)))) ((0 : Int), (0 : Int))).fst, P.get (P.get x.fst (P.get y.fst (P.wrap IntKind.i64 (P.sub (P.len y.fst) ((1 : Int)))) ((0 : Int), (0 : Int))).snd ((0 : Int), [], [])).snd.snd y_1.snd.fst ((0 : Int)))])) 16) (P.bind (P.dget (fun (x y : Int × Int) => P.and (P.ieq x.fst y.fst) (P.ieq x.snd y.snd)) y_1.snd.snd.snd.fst ((P.get y.fst (P.wrap IntKind.i64 (P.sub (P.len y.fst) ((1 : Int)))) ((0 : Int), (0 : Int))).fst, P.get (P.get x.fst (P.get y.fst (P.wrap IntKind.i64 (P.sub (P.len y.fst) ((1 : Int)))) ((0 : Int), (0 : Int))).snd ((0 : Int), [], [])).snd.snd y_1.snd.fst ((0 : Int)))) fun (ys : List (Int × Int)) => P.cond (P.room (P.add (P.len ys) (P.len [P.get y.fst (P.wrap IntKind.i64 (P.sub (P.len y.fst) ((1 : Int)))) ((0 : Int), (0 : Int))])) 16) (P.cond (P.not true) (some (Sum.inl (y_1.fst, P.wrap IntKind.i64 (P.add y_1.snd.fst ((1 : Int))), P.mput (fun (x y : Int × Int) => P.and (P.ieq x.fst y.fst) (P.ieq x.snd y.snd)) y_1.snd.snd.fst ((P.get y.fst (P.wrap IntKind.i64 (P.sub (P.len y.fst) ((1 : Int)))) ((0 : Int), (0 : Int))).fst, P.get (P.get x.fst (P.get y.fst (P.wrap IntKind.i64 (P.sub (P.len y.fst) ((1 : Int)))) ((0 : Int), (0 : Int))).snd ((0 : Int), [], [])).snd.snd y_1.snd.fst ((0 : Int))) true, P.mput (fun (x y : Int × Int) => P.and (P.ieq x.fst y.fst) (P.ieq x.snd y.snd)) (P.dtake (fun (x y : Int × Int) => P.and (P.ieq x.fst y.fst) (P.ieq x.snd y.snd)) y_1.snd.snd.snd.fst ((P.get y.fst (P.wrap IntKind.i64 (P.sub (P.len y.fst) ((1 : Int)))) ((0 : Int), (0 : Int))).fst, P.get (P.get x.fst (P.get y.fst (P.wrap IntKind.i64 (P.sub (P.len y.fst) ((1 : Int)))) ((0 : Int), (0 : Int))).snd ((0 : Int), [], [])).snd.snd y_1.snd.fst ((0 : Int)))) ((P.get y.fst (P.wrap IntKind.i64 (P.sub (P.len y.fst) ((1 : Int)))) ((0 : Int), (0 : Int))).fst, P.get (P.get x.fst (P.get y.fst (P.wrap IntKind.i64 (P.sub (P.len y.fst) ((1 : Int)))) ((0 : Int), (0 : Int))).snd ((0 : Int), [], [])).snd.snd y_1.snd.fst ((0 : Int))) (some (P.app ys [P.get y.fst (P.wrap IntKind.i64 (P.sub (P.len y.fst) ((1 : Int)))) ((0 : Int), (0 : Int))])), P.app y_1.snd.snd.snd.snd [((P.get y.fst (P.wrap IntKind.i64 (P.sub (P.len y.fst) ((1 : Int)))) ((0 : Int), (0 : Int))).fst, P.get (P.get x.fst (P.get y.fst (P.wrap IntKind.i64 (P.sub (P.len y.fst) ((1 : Int)))) ((0 : Int), (0 : Int))).snd ((0 : Int), [], [])).snd.snd y_1.snd.fst ((0 : Int)))]))) (some (Sum.inl (false, P.wrap IntKind.i64 (P.add y_1.snd.fst ((1 : Int))), P.mput (fun (x y : Int × Int) => P.and (P.ieq x.fst y.fst) (P.ieq x.snd y.snd)) y_1.snd.snd.fst ((P.get y.fst (P.wrap IntKind.i64 (P.sub (P.len y.fst) ((1 : Int)))) ((0 : Int), (0 : Int))).fst, P.get (P.get x.fst (P.get y.fst (P.wrap IntKind.i64 (P.sub (P.len y.fst) ((1 : Int)))) ((0 : Int), (0 : Int))).snd ((0 : Int), [], [])).snd.snd y_1.snd.fst ((0 : Int))) true, P.mput (fun (x y : Int × Int) => P.and (P.ieq x.fst y.fst) (P.ieq x.snd y.snd)) (P.dtake (fun (x y : Int × Int) => P.and (P.ieq x.fst y.fst) (P.ieq x.snd y.snd)) y_1.snd.snd.snd.fst ((P.get y.fst (P.wrap IntKind.i64 (P.sub (P.len y.fst) ((1 : Int)))) ((0 : Int), (0 : Int))).fst, P.get (P.get x.fst (P.get y.fst (P.wrap IntKind.i64 (P.sub (P.len y.fst) ((1 : Int)))) ((0 : Int), (0 : Int))).snd ((0 : Int), [], [])).snd.snd y_1.snd.fst ((0 : Int)))) ((P.get y.fst (P.wrap IntKind.i64 (P.sub (P.len y.fst) ((1 : Int)))) ((0 : Int), (0 : Int))).fst, P.get (P.get x.fst (P.get y.fst (P.wrap IntKind.i64 (P.sub (P.len y.fst) ((1 : Int)))) ((0 : Int), (0 : Int))).snd ((0 : Int), [], [])).snd.snd y_1.snd.fst ((0 : Int))) (some (P.app ys [P.get y.fst (P.wrap IntKind.i64 (P.sub (P.len y.fst) ((1 : Int)))) ((0 : Int), (0 : Int))])), P.app y_1.snd.snd.snd.snd [((P.get y.fst (P.wrap IntKind.i64 (P.sub (P.len y.fst) ((1 : Int)))) ((0 : Int), (0 : Int))).fst, P.get (P.get x.fst (P.get y.fst (P.wrap IntKind.i64 (P.sub (P.len y.fst) ((1 : Int)))) ((0 : Int), (0 : Int))).snd ((0 : Int), [], [])).snd.snd y_1.snd.fst ((0 : Int)))])))) none) none) (P.bind (P.dget (fun (x y : Int × Int) => P.and (P.ieq x.fst y.fst) (P.ieq x.snd y.snd)) y_1.snd.snd.snd.fst ((P.get y.fst (P.wrap IntKind.i64 (P.sub (P.len y.fst) ((1 : Int)))) ((0 : Int), (0 : Int))).fst, P.get (P.get x.fst (P.get y.fst (P.wrap IntKind.i64 (P.sub (P.len y.fst) ((1 : Int)))) ((0 : Int), (0 : Int))).snd ((0 : Int), [], [])).snd.snd y_1.snd.fst ((0 : Int)))) fun (ys : List (Int × Int)) => P.cond (P.room (P.add (P.len ys) (P.len [P.get y.fst (P.wrap IntKind.i64 (P.sub (P.len y.fst) ((1 : Int)))) ((0 : Int), (0 : Int))])) 16) (P.cond (P.not (P.mval (fun (x y : Int × Int) => P.and (P.ieq x.fst y.fst) (P.ieq x.snd y.snd)) y_1.snd.snd.fst ((P.get y.fst (P.wrap IntKind.i64 (P.sub (P.len y.fst) ((1 : Int)))) ((0 : Int), (0 : Int))).fst, P.get (P.get x.fst (P.get y.fst (P.wrap IntKind.i64 (P.sub (P.len y.fst) ((1 : Int)))) ((0 : Int), (0 : Int))).snd ((0 : Int), [], [])).snd.snd y_1.snd.fst ((0 : Int))) false)) (some (Sum.inl (y_1.fst, P.wrap IntKind.i64 (P.add y_1.snd.fst ((1 : Int))), y_1.snd.snd.fst, P.mput (fun (x y : Int × Int) => P.and (P.ieq x.fst y.fst) (P.ieq x.snd y.snd)) (P.dtake (fun (x y : Int × Int) => P.and (P.ieq x.fst y.fst) (P.ieq x.snd y.snd)) y_1.snd.snd.snd.fst ((P.get y.fst (P.wrap IntKind.i64 (P.sub (P.len y.fst) ((1 : Int)))) ((0 : Int), (0 : Int))).fst, P.get (P.get x.fst (P.get y.fst (P.wrap IntKind.i64 (P.sub (P.len y.fst) ((1 : Int)))) ((0 : Int), (0 : Int))).snd ((0 : Int), [], [])).snd.snd y_1.snd.fst ((0 : Int)))) ((P.get y.fst (P.wrap IntKind.i64 (P.sub (P.len y.fst) ((1 : Int)))) ((0 : Int), (0 : Int))).fst, P.get (P.get x.fst (P.get y.fst (P.wrap IntKind.i64 (P.sub (P.len y.fst) ((1 : Int)))) ((0 : Int), (0 : Int))).snd ((0 : Int), [], [])).snd.snd y_1.snd.fst ((0 : Int))) (some (P.app ys [P.get y.fst (P.wrap IntKind.i64 (P.sub (P.len y.fst) ((1 : Int)))) ((0 : Int), (0 : Int))])), y_1.snd.snd.snd.snd))) (some (Sum.inl (false, P.wrap IntKind.i64 (P.add y_1.snd.fst ((1 : Int))), y_1.snd.snd.fst, P.mput (fun (x y : Int × Int) => P.and (P.ieq x.fst y.fst) (P.ieq x.snd y.snd)) (P.dtake (fun (x y : Int × Int) => P.and (P.ieq x.fst y.fst) (P.ieq x.snd y.snd)) y_1.snd.snd.snd.fst ((P.get y.fst (P.wrap IntKind.i64 (P.sub (P.len y.fst) ((1 : Int)))) ((0 : Int), (0 : Int))).fst, P.get (P.get x.fst (P.get y.fst (P.wrap IntKind.i64 (P.sub (P.len y.fst) ((1 : Int)))) ((0 : Int), (0 : Int))).snd ((0 : Int), [], [])).snd.snd y_1.snd.fst ((0 : Int)))) ((P.get y.fst (P.wrap IntKind.i64 (P.sub (P.len y.fst) ((1 : Int)))) ((0 : Int), (0 : Int))).fst, P.get (P.get x.fst (P.get y.fst (P.wrap IntKind.i64 (P.sub (P.len y.fst) ((1 : Int)))) ((0 : Int), (0 : Int))).snd ((0 : Int), [], [])).snd.snd y_1.snd.fst ((0 : Int))) (some (P.app ys [P.get y.fst (P.wrap IntKind.i64 (P.sub (P.len y.fst) ((1 : Int)))) ((0 : Int), (0 : Int))])), y_1.snd.snd.snd.snd)))) none)) none) (some (Sum.inr (Sum.inl (y_1.fst, y_1.snd.snd.fst, y_1.snd.snd.snd.fst, y_1.snd.snd.snd.snd))))) (true, (0 : Int), y.snd.fst, y.snd.snd, P.sub_ y.fst ((0 : Int)) (P.wrap IntKind.i64 (P.sub (P.len y.fst) ((1 : Int)))))) (P.either (fun (z : Bool × List ((Int × Int) × Bool) × List ((Int × Int) × Option (List (Int × Int))) × List (Int × Int)) => P.cond (P.not z.fst) (some (Sum.inl (z.snd.snd.snd, z.snd.fst, z.snd.snd.fst))) (P.bind (P.dget (fun (x y : Int × Int) => P.and (P.ieq x.fst y.fst) (P.ieq x.snd y.snd)) z.snd.snd.fst (P.get y.fst (P.wrap IntKind.i64 (P.sub (P.len y.fst) ((1 : Int)))) ((0 : Int), (0 : Int)))) fun (ys : List (Int × Int)) => P.cond (P.room (P.add (P.len z.snd.snd.snd) (P.len ys)) 16) (some (Sum.inl (P.app z.snd.snd.snd ys, P.mput (fun (x y : Int × Int) => P.and (P.ieq x.fst y.fst) (P.ieq x.snd y.snd)) z.snd.fst (P.get y.fst (P.wrap IntKind.i64 (P.sub (P.len y.fst) ((1 : Int)))) ((0 : Int), (0 : Int))) false, P.mdel (fun (x y : Int × Int) => P.and (P.ieq x.fst y.fst) (P.ieq x.snd y.snd)) (P.dtake (fun (x y : Int × Int) => P.and (P.ieq x.fst y.fst) (P.ieq x.snd y.snd)) z.snd.snd.fst (P.get y.fst (P.wrap IntKind.i64 (P.sub (P.len y.fst) ((1 : Int)))) ((0 : Int), (0 : Int)))) (P.get y.fst (P.wrap IntKind.i64 (P.sub (P.len y.fst) ((1 : Int)))) ((0 : Int), (0 : Int)))))) none)) fun (r : List (Int × Int) × List ((Int × Int) × Bool) × List ((Int × Int) × Option (List (Int × Int))) ⊕ List ((Int × Int) × Bool) × List ((Int × Int) × Option (List (Int × Int))) ⊕ Bool) => some r)) (P.cond (P.ieq (P.get x.fst (P.get y.fst (P.wrap IntKind.i64 (P.sub (P.len y.fst) ((1 : Int)))) ((0 : Int), (0 : Int))).snd ((0 : Int), [], [])).fst ((0 : Int))) (some (Sum.inl (P.sub_ y.fst ((0 : Int)) (P.wrap IntKind.i64 (P.sub (P.len y.fst) ((1 : Int)))), y.snd.fst, y.snd.snd))) (P.cond (P.not (P.ieq (P.get x.fst (P.get y.fst (P.wrap IntKind.i64 (P.sub (P.len y.fst) ((1 : Int)))) ((0 : Int), (0 : Int))).fst ((0 : Int), [], [])).fst (P.get x.fst (P.get y.fst (P.wrap IntKind.i64 (P.sub (P.len y.fst) ((1 : Int)))) ((0 : Int), (0 : Int))).snd ((0 : Int), [], [])).fst)) (P.bind (P.dget (fun (x y : Int × Int) => P.and (P.ieq x.fst y.fst) (P.ieq x.snd y.snd)) y.snd.snd (P.get y.fst (P.wrap IntKind.i64 (P.sub (P.len y.fst) ((1 : Int)))) ((0 : Int), (0 : Int)))) fun (ys : List (Int × Int)) => P.cond (P.room (P.add (P.len (P.sub_ y.fst ((0 : Int)) (P.wrap IntKind.i64 (P.sub (P.len y.fst) ((1 : Int)))))) (P.len ys)) 16) (some (Sum.inl (P.app (P.sub_ y.fst ((0 : Int)) (P.wrap IntKind.i64 (P.sub (P.len y.fst) ((1 : Int))))) ys, P.mput (fun (x y : Int × Int) => P.and (P.ieq x.fst y.fst) (P.ieq x.snd y.snd)) y.snd.fst (P.get y.fst (P.wrap IntKind.i64 (P.sub (P.len y.fst) ((1 : Int)))) ((0 : Int), (0 : Int))) false, P.mdel (fun (x y : Int × Int) => P.and (P.ieq x.fst y.fst) (P.ieq x.snd y.snd)) (P.dtake (fun (x y : Int × Int) => P.and (P.ieq x.fst y.fst) (P.ieq x.snd y.snd)) y.snd.snd (P.get y.fst (P.wrap IntKind.i64 (P.sub (P.len y.fst) ((1 : Int)))) ((0 : Int), (0 : Int)))) (P.get y.fst (P.wrap IntKind.i64 (P.sub (P.len y.fst) ((1 : Int)))) ((0 : Int), (0 : Int)))))) none) (P.bind (P.iter k (fun (y_1 : Bool × Int × List ((Int × Int) × Bool) × List ((Int × Int) × Option (List (Int × Int))) × List (Int × Int)) => P.cond (P.ilt y_1.snd.fst (P.len (P.get x.fst (P.get y.fst (P.wrap IntKind.i64 (P.sub (P.len y.fst) ((1 : Int)))) ((0 : Int), (0 : Int))).snd ((0 : Int), [], [])).snd.fst)) (P.cond (P.inb y_1.snd.fst (P.len (P.get x.fst (P.get y.fst (P.wrap IntKind.i64 (P.sub (P.len y.fst) ((1 : Int)))) ((0 : Int), (0 : Int))).snd ((0 : Int), [], [])).snd.fst)) (P.bind (types_field k (P.get x.fst (P.get y.fst (P.wrap IntKind.i64 (P.sub (P.len y.fst) ((1 : Int)))) ((0 : Int), (0 : Int))).fst ((0 : Int), [], []), (P.get (P.get x.fst (P.get y.fst (P.wrap IntKind.i64 (P.sub (P.len y.fst) ((1 : Int)))) ((0 : Int), (0 : Int))).snd ((0 : Int), [], [])).snd.fst y_1.snd.fst ((ByteArray.mk #[]), (0 : Int))).fst)) fun (r : Int × Bool) => P.cond r.snd (P.cond (P.not (P.mhas (fun (x y : Int × Int) => P.and (P.ieq x.fst y.fst) (P.ieq x.snd y.snd)) y_1.snd.snd.fst (r.fst, (P.get (P.get x.fst (P.get y.fst (P.wrap IntKind.i64 (P.sub (P.len y.fst) ((1 : Int)))) ((0 : Int), (0 : Int))).snd ((0 : Int), [], [])).snd.fst y_1.snd.fst ((ByteArray.mk #[]), (0 : Int))).snd))) (P.cond (P.room (P.add (P.len y_1.snd.snd.snd.snd) (P.len [(r.fst, (P.get (P.get x.fst (P.get y.fst (P.wrap IntKind.i64 (P.sub (P.len y.fst) ((1 : Int)))) ((0 : Int), (0 : Int))).snd ((0 : Int), [], [])).snd.fst y_1.snd.fst ((ByteArray.mk #[]), (0 : Int))).snd)])) 16) (P.bind (P.dget (fun (x y : Int × Int) => P.and (P.ieq x.fst y.fst) (P.ieq x.snd y.snd)) y_1.snd.snd.snd.fst (r.fst, (P.get (P.get x.fst (P.get y.fst (P.wrap IntKind.i64 (P.sub (P.len y.fst) ((1 : Int)))) ((0 : Int), (0 : Int))).snd ((0 : Int), [], [])).snd.fst y_1.snd.fst ((ByteArray.mk #[]), (0 : Int))).snd)) fun (ys : List (Int × Int)) => P.cond (P.room (P.add (P.len ys) (P.len [P.get y.fst (P.wrap IntKind.i64 (P.sub (P.len y.fst) ((1 : Int)))) ((0 : Int), (0 : Int))])) 16) (some (Sum.inl (y_1.fst, P.wrap IntKind.i64 (P.add y_1.snd.fst ((1 : Int))), P.mput (fun (x y : Int × Int) => P.and (P.ieq x.fst y.fst) (P.ieq x.snd y.snd)) y_1.snd.snd.fst (r.fst, (P.get (P.get x.fst (P.get y.fst (P.wrap IntKind.i64 (P.sub (P.len y.fst) ((1 : Int)))) ((0 : Int), (0 : Int))).snd ((0 : Int), [], [])).snd.fst y_1.snd.fst ((ByteArray.mk #[]), (0 : Int))).snd) true, P.mput (fun (x y : Int × Int) => P.and (P.ieq x.fst y.fst) (P.ieq x.snd y.snd)) (P.dtake (fun (x y : Int × Int) => P.and (P.ieq x.fst y.fst) (P.ieq x.snd y.snd)) y_1.snd.snd.snd.fst (r.fst, (P.get (P.get x.fst (P.get y.fst (P.wrap IntKind.i64 (P.sub (P.len y.fst) ((1 : Int)))) ((0 : Int), (0 : Int))).snd ((0 : Int), [], [])).snd.fst y_1.snd.fst ((ByteArray.mk #[]), (0 : Int))).snd)) (r.fst, (P.get (P.get x.fst (P.get y.fst (P.wrap IntKind.i64 (P.sub (P.len y.fst) ((1 : Int)))) ((0 : Int), (0 : Int))).snd ((0 : Int), [], [])).snd.fst y_1.snd.fst ((ByteArray.mk #[]), (0 : Int))).snd) (some (P.app ys [P.get y.fst (P.wrap IntKind.i64 (P.sub (P.len y.fst) ((1 : Int)))) ((0 : Int), (0 : Int))])), P.app y_1.snd.snd.snd.snd [(r.fst, (P.get (P.get x.fst (P.get y.fst (P.wrap IntKind.i64 (P.sub (P.len y.fst) ((1 : Int)))) ((0 : Int), (0 : Int))).snd ((0 : Int), [], [])).snd.fst y_1.snd.fst ((ByteArray.mk #[]), (0 : Int))).snd)]))) none) none) (P.bind (P.dget (fun (x y : Int × Int) => P.and (P.ieq x.fst y.fst) (P.ieq x.snd y.snd)) y_1.snd.snd.snd.fst (r.fst, (P.get (P.get x.fst (P.get y.fst (P.wrap IntKind.i64 (P.sub (P.len y.fst) ((1 : Int)))) ((0 : Int), (0 : Int))).snd ((0 : Int), [], [])).snd.fst y_1.snd.fst ((ByteArray.mk #[]), (0 : Int))).snd)) fun (ys : List (Int × Int)) => P.cond (P.room (P.add (P.len ys) (P.len [P.get y.fst (P.wrap IntKind.i64 (P.sub (P.len y.fst) ((1 : Int)))) ((0 : Int), (0 : Int))])) 16) (P.cond (P.mval (fun (x y : Int × Int) => P.and (P.ieq x.fst y.fst) (P.ieq x.snd y.snd)) y_1.snd.snd.fst (r.fst, (P.get (P.get x.fst (P.get y.fst (P.wrap IntKind.i64 (P.sub (P.len y.fst) ((1 : Int)))) ((0 : Int), (0 : Int))).snd ((0 : Int), [], [])).snd.fst y_1.snd.fst ((ByteArray.mk #[]), (0 : Int))).snd) false) (some (Sum.inl (y_1.fst, P.wrap IntKind.i64 (P.add y_1.snd.fst ((1 : Int))), y_1.snd.snd.fst, P.mput (fun (x y : Int × Int) => P.and (P.ieq x.fst y.fst) (P.ieq x.snd y.snd)) (P.dtake (fun (x y : Int × Int) => P.and (P.ieq x.fst y.fst) (P.ieq x.snd y.snd)) y_1.snd.snd.snd.fst (r.fst, (P.get (P.get x.fst (P.get y.fst (P.wrap IntKind.i64 (P.sub (P.len y.fst) ((1 : Int)))) ((0 : Int), (0 : Int))).snd ((0 : Int), [], [])).snd.fst y_1.snd.fst ((ByteArray.mk #[]), (0 : Int))).snd)) (r.fst, (P.get (P.get x.fst (P.get y.fst (P.wrap IntKind.i64 (P.sub (P.len y.fst) ((1 : Int)))) ((0 : Int), (0 : Int))).snd ((0 : Int), [], [])).snd.fst y_1.snd.fst ((ByteArray.mk #[]), (0 : Int))).snd) (some (P.app ys [P.get y.fst (P.wrap IntKind.i64 (P.sub (P.len y.fst) ((1 : Int)))) ((0 : Int), (0 : Int))])), y_1.snd.snd.snd.snd))) (some (Sum.inl (false, P.wrap IntKind.i64 (P.add y_1.snd.fst ((1 : Int))), y_1.snd.snd.fst, P.mput (fun (x y : Int × Int) => P.and (P.ieq x.fst y.fst) (P.ieq x.snd y.snd)) (P.dtake (fun (x y : Int × Int) => P.and (P.ieq x.fst y.fst) (P.ieq x.snd y.snd)) y_1.snd.snd.snd.fst (r.fst, (P.get (P.get x.fst (P.get y.fst (P.wrap IntKind.i64 (P.sub (P.len y.fst) ((1 : Int)))) ((0 : Int), (0 : Int))).snd ((0 : Int), [], [])).snd.fst y_1.snd.fst ((ByteArray.mk #[]), (0 : Int))).snd)) (r.fst, (P.get (P.get x.fst (P.get y.fst (P.wrap IntKind.i64 (P.sub (P.len y.fst) ((1 : Int)))) ((0 : Int), (0 : Int))).snd ((0 : Int), [], [])).snd.fst y_1.snd.fst ((ByteArray.mk #[]), (0 : Int))).snd) (some (P.app ys [P.get y.fst (P.wrap IntKind.i64 (P.sub (P.len y.fst) ((1 : Int)))) ((0 : Int), (0 : Int))])), y_1.snd.snd.snd.snd)))) none)) (some (Sum.inl (false, P.wrap IntKind.i64 (P.add y_1.snd.fst ((1 : Int))), y_1.snd.snd.fst, y_1.snd.snd.snd.fst, y_1.snd.snd.snd.snd)))) none) (some (Sum.inr (Sum.inl (y_1.fst, y_1.snd.snd.fst, y_1.snd.snd.snd.fst, y_1.snd.snd.snd.snd))))) (true, (0 : Int), y.snd.fst, y.snd.snd, P.sub_ y.fst ((0 : Int)) (P.wrap IntKind.i64 (P.sub (P.len y.fst) ((1 : Int)))))) (P.either (fun (z : Bool × List ((Int × Int) × Bool) × List ((Int × Int) × Option (List (Int × Int))) × List (Int × Int)) => P.cond z.fst (some (Sum.inl (z.snd.snd.snd, z.snd.fst, z.snd.snd.fst))) (P.bind (P.dget (fun (x y : Int × Int) => P.and (P.ieq x.fst y.fst) (P.ieq x.snd y.snd)) z.snd.snd.fst (P.get y.fst (P.wrap IntKind.i64 (P.sub (P.len y.fst) ((1 : Int)))) ((0 : Int), (0 : Int)))) fun (ys : List (Int × Int)) => P.cond (P.room (P.add (P.len z.snd.snd.snd) (P.len ys)) 16) (some (Sum.inl (P.app z.snd.snd.snd ys, P.mput (fun (x y : Int × Int) => P.and (P.ieq x.fst y.fst) (P.ieq x.snd y.snd)) z.snd.fst (P.get y.fst (P.wrap IntKind.i64 (P.sub (P.len y.fst) ((1 : Int)))) ((0 : Int), (0 : Int))) false, P.mdel (fun (x y : Int × Int) => P.and (P.ieq x.fst y.fst) (P.ieq x.snd y.snd)) (P.dtake (fun (x y : Int × Int) => P.and (P.ieq x.fst y.fst) (P.ieq x.snd y.snd)) z.snd.snd.fst (P.get y.fst (P.wrap IntKind.i64 (P.sub (P.len y.fst) ((1 : Int)))) ((0 : Int), (0 : Int)))) (P.get y.fst (P.wrap IntKind.i64 (P.sub (P.len y.fst) ((1 : Int)))) ((0 : Int), (0 : Int)))))) none)) fun (r : List (Int × Int) × List ((Int × Int) × Bool) × List ((Int × Int) × Option (List (Int × Int))) ⊕ List ((Int × Int) × Bool) × List ((Int × Int) × Option (List (Int × Int))) ⊕ Bool) => some r)))))) none) none)) none) none) (some (Sum.inr (Sum.inl (y.snd.fst, y.snd.snd))))) ([(x.snd.fst, x.snd.snd)], P.mput (fun (x y : Int × Int) => P.and (P.ieq x.fst y.fst) (P.ieq x.snd y.snd)) [] (x.snd.fst, x.snd.snd) true, [])) (P.either (fun (z : List ((Int × Int) × Bool) × List ((Int × Int) × Option (List (Int × Int)))) => some (P.mval (fun (x y : Int × Int) => P.and (P.ieq x.fst y.fst) (P.ieq x.snd y.snd)) z.fst (x.snd.fst, x.snd.snd) false)) fun (r : Bool) => some r))))
noncomputable abbrev EN19 (k : Nat) (sp : List (Nat × Go.PG.Spec)) : Go.PG.Env := { T := T, specs := sp, codes := codesS, k := k, maps := [(123, (.int .i64), (.int .i64)), (175, T_types_pair, .bool), (185, T_types_pair_126, .bool)], dmaps := [(176, T_types_pair, T_types_pair), (186, T_types_pair_126, T_types_pair_126)] }
theorem types_Sub_eq (k : Nat) (x : (Ty.D (.pair (.slice T_api_Type) (.pair (.int .i64) (.int .i64))))) : evFn (EN19 k [(17, ⟨(.slice T_api_Type), .bool, types_May k⟩), (66, ⟨(.pair (.slice T_api_Type) (.int .i64)), .bool, types_place k⟩), (74, ⟨(.pair T_api_Type .str), (.pair (.int .i64) .bool), types_field k⟩)]) 6 Try.f19 [] (.pair (.slice T_api_Type) (.pair (.int .i64) (.int .i64))) .bool x = types_Sub k x := by kernel_rfl
theorem types_Sub_spec (k : Nat) : SpecOk Try.prog GG 19 ⟨(.pair (.slice T_api_Type) (.pair (.int .i64) (.int .i64))), .bool, types_Sub k⟩ :=
  fn_spec (envOk (E := EN19 k [(17, ⟨(.slice T_api_Type), .bool, types_May k⟩), (66, ⟨(.pair (.slice T_api_Type) (.int .i64)), .bool, types_place k⟩), (74, ⟨(.pair T_api_Type .str), (.pair (.int .i64) .bool), types_field k⟩)]) tabOk (.cons (types_May_spec k) f17_at f17_ok <| .cons (types_place_spec k) f66_at f66_ok <| .cons (types_field_spec k) f74_at f74_ok <| .nil) codesSOk mixedOk (fun _ _ _ _ => trivial) (hmp := mapsOk) (hdm := dmapsOk)) f19_at (fun x => (types_Sub_eq k x).symm)
noncomputable def types_Equal : (k : Nat) → (Ty.D (.pair (.slice T_api_Type) (.pair (.int .i64) (.int .i64)))) → Option (Ty.D .bool) := fun (k : Nat) (x : (T_api_Type.slice.pair ((Ty.int IntKind.i64).pair (Ty.int IntKind.i64))).D) => P.bind (types_Sub k (x.fst, x.snd.fst, x.snd.snd)) fun (r : Bool) => P.cond r (P.bind (types_Sub k (x.fst, x.snd.snd, x.snd.fst)) fun (r : Bool) => some r) (some false)
theorem types_Equal_eq (k : Nat) (x : (Ty.D (.pair (.slice T_api_Type) (.pair (.int .i64) (.int .i64))))) : evFn (EN k [(19, ⟨(.pair (.slice T_api_Type) (.pair (.int .i64) (.int .i64))), .bool, types_Sub k⟩)]) 6 Try.f21 [] (.pair (.slice T_api_Type) (.pair (.int .i64) (.int .i64))) .bool x = types_Equal k x := by kernel_rfl
theorem types_Equal_spec (k : Nat) : SpecOk Try.prog GG 21 ⟨(.pair (.slice T_api_Type) (.pair (.int .i64) (.int .i64))), .bool, types_Equal k⟩ :=
  fn_spec (envOk (E := EN k [(19, ⟨(.pair (.slice T_api_Type) (.pair (.int .i64) (.int .i64))), .bool, types_Sub k⟩)]) tabOk (.cons (types_Sub_spec k) f19_at f19_ok <| .nil) codesOk mixedOk (fun _ _ _ _ => trivial) (hmp := mapsOk) (hdm := dmapsOk)) f21_at (fun x => (types_Equal_eq k x).symm)
noncomputable def store_May : (k : Nat) → (Ty.D (.slice T_api_Obj)) → Option (Ty.D .bool) := fun (k : Nat) (x : T_api_Obj.slice.D) => P.bind (P.iter k (fun (y : Int) => P.cond (P.ilt y (P.len x)) (P.cond (P.inb y (P.len x)) (P.bind (P.iter k (fun (y_1 : Int) => P.cond (P.ilt y_1 (P.len (P.get x y ([], (0 : Int), (0 : Int))).fst)) (P.cond (P.inb y_1 (P.len (P.get x y ([], (0 : Int), (0 : Int))).fst)) (P.bind (store_Right k (x, (P.get (P.get x y ([], (0 : Int), (0 : Int))).fst y_1 ((ByteArray.mk #[]), (0 : Int), (0 : Int))).snd)) fun (r : Bool) => P.cond (P.not r) (some (Sum.inr (Sum.inr (Sum.inr (Sum.inr false))))) (P.cond (P.ilt ((0 : Int)) y_1) (P.cond (P.inb (P.wrap IntKind.i64 (P.sub y_1 ((1 : Int)))) (P.len (P.get x y ([], (0 : Int), (0 : Int))).fst)) (P.cond (P.not (P.slt (P.get (P.get x y ([], (0 : Int), (0 : Int))).fst (P.wrap IntKind.i64 (P.sub y_1 ((1 : Int)))) ((ByteArray.mk #[]), (0 : Int), (0 : Int))).fst (P.get (P.get x y ([], (0 : Int), (0 : Int))).fst y_1 ((ByteArray.mk #[]), (0 : Int), (0 : Int))).fst)) (some (Sum.inr (Sum.inr (Sum.inr (Sum.inr false))))) (some (Sum.inl (P.wrap IntKind.i64 (P.add y_1 ((1 : Int))))))) none) (some (Sum.inl (P.wrap IntKind.i64 (P.add y_1 ((1 : Int)))))))) none) (some (Sum.inr (Sum.inl PUnit.unit)))) ((0 : Int))) (P.either (fun (z : PUnit) => P.cond (P.not (P.and (P.ieq (P.get x y ([], (0 : Int), (0 : Int))).snd.fst ((0 : Int))) (P.ieq (P.get x y ([], (0 : Int), (0 : Int))).snd.snd ((0 : Int))))) (P.cond (P.not (P.ieq (P.get x y ([], (0 : Int), (0 : Int))).snd.fst ((4 : Int)))) (some (Sum.inr (Sum.inr false))) (P.cond (P.ilt (P.get x y ([], (0 : Int), (0 : Int))).snd.snd ((0 : Int))) (some (Sum.inr (Sum.inr false))) (P.cond (P.ile y (P.get x y ([], (0 : Int), (0 : Int))).snd.snd) (some (Sum.inr (Sum.inr false))) (some (Sum.inl (P.wrap IntKind.i64 (P.add y ((1 : Int))))))))) (some (Sum.inl (P.wrap IntKind.i64 (P.add y ((1 : Int))))))) fun (r : Int ⊕ PUnit ⊕ Bool) => some r)) none) (some (Sum.inr (Sum.inl PUnit.unit)))) ((0 : Int))) (P.either (fun (z : PUnit) => some true) fun (r : Bool) => some r)
theorem store_May_eq (k : Nat) (x : (Ty.D (.slice T_api_Obj))) : evFn (EN k [(77, ⟨(.pair (.slice T_api_Obj) T_api_Val), .bool, store_Right k⟩)]) 6 Try.f76 [(2, ⟨[.var 9 (.d (.int .i64))], [], (some (0, []))⟩), (5, ⟨[.var 17 (.d (.int .i64))], [], (some (2, []))⟩)] (.slice T_api_Obj) .bool x = store_May k x := by kernel_rfl
theorem store_May_spec (k : Nat) : SpecOk Try.prog GG 76 ⟨(.slice T_api_Obj), .bool, store_May k⟩ :=
  fn_spec (envOk (E := EN k [(77, ⟨(.pair (.slice T_api_Obj) T_api_Val), .bool, store_Right k⟩)]) tabOk (.cons (store_Right_spec k) f77_at f77_ok <| .nil) codesOk mixedOk (fun _ _ _ _ => trivial) (hmp := mapsOk) (hdm := dmapsOk)) f76_at (fun x => (store_May_eq k x).symm)
noncomputable def types_In : (k : Nat) → (Ty.D (.pair (.slice T_api_Type) (.pair (.slice T_api_Obj) (.pair T_api_Val (.int .i64))))) → Option (Ty.D .bool) := fun (k : Nat) (x : (T_api_Type.slice.pair (T_api_Obj.slice.pair (T_api_Val.pair (Ty.int IntKind.i64)))).D) => P.bind (types_May k x.fst) fun (r : Bool) => P.cond (P.not r) (some false) (P.bind (store_May k x.snd.fst) fun (r : Bool) => P.cond (P.not r) (some false) (P.bind (store_Right k (x.snd.fst, x.snd.snd.fst)) fun (r : Bool) => P.cond (P.not r) (some false) (P.bind (types_place k (x.fst, x.snd.snd.snd)) fun (r : Bool) => P.cond (P.not r) (some false) (P.bind (P.iter k (fun (y : List ((Int × Int) × Int) × List (((Int × Int) × Int) × Bool) × List (((Int × Int) × Int) × Option (List ((Int × Int) × Int)))) => P.cond (P.ilt ((0 : Int)) (P.len y.fst)) (P.cond (P.inb (P.wrap IntKind.i64 (P.sub (P.len y.fst) ((1 : Int)))) (P.len y.fst)) (P.cond (P.cut ((0 : Int)) (P.wrap IntKind.i64 (P.sub (P.len y.fst) ((1 : Int)))) (P.len y.fst)) (P.cond (P.not (P.mval (fun (x y : (Int × Int) × Int) => P.and (P.and (P.ieq x.fst.fst y.fst.fst) (P.ieq x.fst.snd y.fst.snd)) (P.ieq x.snd y.snd)) y.snd.fst (P.get y.fst (P.wrap IntKind.i64 (P.sub (P.len y.fst) ((1 : Int)))) (((0 : Int), (0 : Int)), (0 : Int))) false)) (some (Sum.inl (P.sub_ y.fst ((0 : Int)) (P.wrap IntKind.i64 (P.sub (P.len y.fst) ((1 : Int)))), y.snd.fst, y.snd.snd))) (P.cond (P.inb (P.get y.fst (P.wrap IntKind.i64 (P.sub (P.len y.fst) ((1 : Int)))) (((0 : Int), (0 : Int)), (0 : Int))).snd (P.len x.fst)) (P.cond (P.ieq (P.get x.fst (P.get y.fst (P.wrap IntKind.i64 (P.sub (P.len y.fst) ((1 : Int)))) (((0 : Int), (0 : Int)), (0 : Int))).snd ((0 : Int), [], [])).fst ((0 : Int))) (some (Sum.inl (P.sub_ y.fst ((0 : Int)) (P.wrap IntKind.i64 (P.sub (P.len y.fst) ((1 : Int)))), y.snd.fst, y.snd.snd))) (P.cond (P.ieq (P.get x.fst (P.get y.fst (P.wrap IntKind.i64 (P.sub (P.len y.fst) ((1 : Int)))) (((0 : Int), (0 : Int)), (0 : Int))).snd ((0 : Int), [], [])).fst ((5 : Int))) (P.bind (P.iter k (fun (y_1 : Bool × Int × List (((Int × Int) × Int) × Bool) × List (((Int × Int) × Int) × Option (List ((Int × Int) × Int))) × List ((Int × Int) × Int)) => P.cond (P.ilt y_1.snd.fst (P.len (P.get x.fst (P.get y.fst (P.wrap IntKind.i64 (P.sub (P.len y.fst) ((1 : Int)))) (((0 : Int), (0 : Int)), (0 : Int))).snd ((0 : Int), [], [])).snd.snd)) (P.cond (P.inb y_1.snd.fst (P.len (P.get x.fst (P.get y.fst (P.wrap IntKind.i64 (P.sub (P.len y.fst) ((1 : Int)))) (((0 : Int), (0 : Int)), (0 : Int))).snd ((0 : Int), [], [])).snd.snd)) (P.cond (P.not (P.mhas (fun (x y : (Int × Int) × Int) => P.and (P.and (P.ieq x.fst.fst y.fst.fst) (P.ieq x.fst.snd y.fst.snd)) (P.ieq x.snd y.snd)) y_1.snd.snd.fst ((P.get y.fst (P.wrap IntKind.i64 (P.sub (P.len y.fst) ((1 : Int)))) (((0 : Int), (0 : Int)), (0 : Int))).fst, P.get (P.get x.fst (P.get y.fst (P.wrap IntKind.i64 (P.sub (P.len y.fst) ((1 : Int)))) (((0 : Int), (0 : Int)), (0 : Int))).snd ((0 : Int), [], [])).snd.snd y_1.snd.fst ((0 : Int))))) (P.cond (P.room (P.add (P.len y_1.snd.snd.snd.snd) (P.len [((P.get y.fst (P.wrap IntKind.i64 (P.sub (P.len y.fst) ((1 : Int)))) (((0 : Int), (0 : Int)), (0 : Int))).fst, P.get (P.get x.fst (P.get y.fst (P.wrap IntKind.i64 (P.sub (P.len y.fst) ((1 : Int)))) (((0 : Int), (0 : Int)), (0 : Int))).snd ((0 : Int), [], [])).snd.snd y_1.snd.fst ((0 : Int)))])) 24) (P.bind (P.dget (fun (x y : (Int × Int) × Int) => P.and (P.and (P.ieq x.fst.fst y.fst.fst) (P.ieq x.fst.snd y.fst.snd)) (P.ieq x.snd y.snd)) y_1.snd.snd.snd.fst ((P.get y.fst (P.wrap IntKind.i64 (P.sub (P.len y.fst) ((1 : Int)))) (((0 : Int), (0 : Int)), (0 : Int))).fst, P.get (P.get x.fst (P.get y.fst (P.wrap IntKind.i64 (P.sub (P.len y.fst) ((1 : Int)))) (((0 : Int), (0 : Int)), (0 : Int))).snd ((0 : Int), [], [])).snd.snd y_1.snd.fst ((0 : Int)))) fun (ys : List ((Int × Int) × Int)) => P.cond (P.room (P.add (P.len ys) (P.len [P.get y.fst (P.wrap IntKind.i64 (P.sub (P.len y.fst) ((1 : Int)))) (((0 : Int), (0 : Int)), (0 : Int))])) 24) (P.cond (P.not true) (some (Sum.inl (y_1.fst, P.wrap IntKind.i64 (P.add y_1.snd.fst ((1 : Int))), P.mput (fun (x y : (Int × Int) × Int) => P.and (P.and (P.ieq x.fst.fst y.fst.fst) (P.ieq x.fst.snd y.fst.snd)) (P.ieq x.snd y.snd)) y_1.snd.snd.fst ((P.get y.fst (P.wrap IntKind.i64 (P.sub (P.len y.fst) ((1 : Int)))) (((0 : Int), (0 : Int)), (0 : Int))).fst, P.get (P.get x.fst (P.get y.fst (P.wrap IntKind.i64 (P.sub (P.len y.fst) ((1 : Int)))) (((0 : Int), (0 : Int)), (0 : Int))).snd ((0 : Int), [], [])).snd.snd y_1.snd.fst ((0 : Int))) true, P.mput (fun (x y : (Int × Int) × Int) => P.and (P.and (P.ieq x.fst.fst y.fst.fst) (P.ieq x.fst.snd y.fst.snd)) (P.ieq x.snd y.snd)) (P.dtake (fun (x y : (Int × Int) × Int) => P.and (P.and (P.ieq x.fst.fst y.fst.fst) (P.ieq x.fst.snd y.fst.snd)) (P.ieq x.snd y.snd)) y_1.snd.snd.snd.fst ((P.get y.fst (P.wrap IntKind.i64 (P.sub (P.len y.fst) ((1 : Int)))) (((0 : Int), (0 : Int)), (0 : Int))).fst, P.get (P.get x.fst (P.get y.fst (P.wrap IntKind.i64 (P.sub (P.len y.fst) ((1 : Int)))) (((0 : Int), (0 : Int)), (0 : Int))).snd ((0 : Int), [], [])).snd.snd y_1.snd.fst ((0 : Int)))) ((P.get y.fst (P.wrap IntKind.i64 (P.sub (P.len y.fst) ((1 : Int)))) (((0 : Int), (0 : Int)), (0 : Int))).fst, P.get (P.get x.fst (P.get y.fst (P.wrap IntKind.i64 (P.sub (P.len y.fst) ((1 : Int)))) (((0 : Int), (0 : Int)), (0 : Int))).snd ((0 : Int), [], [])).snd.snd y_1.snd.fst ((0 : Int))) (some (P.app ys [P.get y.fst (P.wrap IntKind.i64 (P.sub (P.len y.fst) ((1 : Int)))) (((0 : Int), (0 : Int)), (0 : Int))])), P.app y_1.snd.snd.snd.snd [((P.get y.fst (P.wrap IntKind.i64 (P.sub (P.len y.fst) ((1 : Int)))) (((0 : Int), (0 : Int)), (0 : Int))).fst, P.get (P.get x.fst (P.get y.fst (P.wrap IntKind.i64 (P.sub (P.len y.fst) ((1 : Int)))) (((0 : Int), (0 : Int)), (0 : Int))).snd ((0 : Int), [], [])).snd.snd y_1.snd.fst ((0 : Int)))]))) (some (Sum.inl (false, P.wrap IntKind.i64 (P.add y_1.snd.fst ((1 : Int))), P.mput (fun (x y : (Int × Int) × Int) => P.and (P.and (P.ieq x.fst.fst y.fst.fst) (P.ieq x.fst.snd y.fst.snd)) (P.ieq x.snd y.snd)) y_1.snd.snd.fst ((P.get y.fst (P.wrap IntKind.i64 (P.sub (P.len y.fst) ((1 : Int)))) (((0 : Int), (0 : Int)), (0 : Int))).fst, P.get (P.get x.fst (P.get y.fst (P.wrap IntKind.i64 (P.sub (P.len y.fst) ((1 : Int)))) (((0 : Int), (0 : Int)), (0 : Int))).snd ((0 : Int), [], [])).snd.snd y_1.snd.fst ((0 : Int))) true, P.mput (fun (x y : (Int × Int) × Int) => P.and (P.and (P.ieq x.fst.fst y.fst.fst) (P.ieq x.fst.snd y.fst.snd)) (P.ieq x.snd y.snd)) (P.dtake (fun (x y : (Int × Int) × Int) => P.and (P.and (P.ieq x.fst.fst y.fst.fst) (P.ieq x.fst.snd y.fst.snd)) (P.ieq x.snd y.snd)) y_1.snd.snd.snd.fst ((P.get y.fst (P.wrap IntKind.i64 (P.sub (P.len y.fst) ((1 : Int)))) (((0 : Int), (0 : Int)), (0 : Int))).fst, P.get (P.get x.fst (P.get y.fst (P.wrap IntKind.i64 (P.sub (P.len y.fst) ((1 : Int)))) (((0 : Int), (0 : Int)), (0 : Int))).snd ((0 : Int), [], [])).snd.snd y_1.snd.fst ((0 : Int)))) ((P.get y.fst (P.wrap IntKind.i64 (P.sub (P.len y.fst) ((1 : Int)))) (((0 : Int), (0 : Int)), (0 : Int))).fst, P.get (P.get x.fst (P.get y.fst (P.wrap IntKind.i64 (P.sub (P.len y.fst) ((1 : Int)))) (((0 : Int), (0 : Int)), (0 : Int))).snd ((0 : Int), [], [])).snd.snd y_1.snd.fst ((0 : Int))) (some (P.app ys [P.get y.fst (P.wrap IntKind.i64 (P.sub (P.len y.fst) ((1 : Int)))) (((0 : Int), (0 : Int)), (0 : Int))])), P.app y_1.snd.snd.snd.snd [((P.get y.fst (P.wrap IntKind.i64 (P.sub (P.len y.fst) ((1 : Int)))) (((0 : Int), (0 : Int)), (0 : Int))).fst, P.get (P.get x.fst (P.get y.fst (P.wrap IntKind.i64 (P.sub (P.len y.fst) ((1 : Int)))) (((0 : Int), (0 : Int)), (0 : Int))).snd ((0 : Int), [], [])).snd.snd y_1.snd.fst ((0 : Int)))])))) none) none) (P.bind (P.dget (fun (x y : (Int × Int) × Int) => P.and (P.and (P.ieq x.fst.fst y.fst.fst) (P.ieq x.fst.snd y.fst.snd)) (P.ieq x.snd y.snd)) y_1.snd.snd.snd.fst ((P.get y.fst (P.wrap IntKind.i64 (P.sub (P.len y.fst) ((1 : Int)))) (((0 : Int), (0 : Int)), (0 : Int))).fst, P.get (P.get x.fst (P.get y.fst (P.wrap IntKind.i64 (P.sub (P.len y.fst) ((1 : Int)))) (((0 : Int), (0 : Int)), (0 : Int))).snd ((0 : Int), [], [])).snd.snd y_1.snd.fst ((0 : Int)))) fun (ys : List ((Int × Int) × Int)) => P.cond (P.room (P.add (P.len ys) (P.len [P.get y.fst (P.wrap IntKind.i64 (P.sub (P.len y.fst) ((1 : Int)))) (((0 : Int), (0 : Int)), (0 : Int))])) 24) (P.cond (P.not (P.mval (fun (x y : (Int × Int) × Int) => P.and (P.and (P.ieq x.fst.fst y.fst.fst) (P.ieq x.fst.snd y.fst.snd)) (P.ieq x.snd y.snd)) y_1.snd.snd.fst ((P.get y.fst (P.wrap IntKind.i64 (P.sub (P.len y.fst) ((1 : Int)))) (((0 : Int), (0 : Int)), (0 : Int))).fst, P.get (P.get x.fst (P.get y.fst (P.wrap IntKind.i64 (P.sub (P.len y.fst) ((1 : Int)))) (((0 : Int), (0 : Int)), (0 : Int))).snd ((0 : Int), [], [])).snd.snd y_1.snd.fst ((0 : Int))) false)) (some (Sum.inl (y_1.fst, P.wrap IntKind.i64 (P.add y_1.snd.fst ((1 : Int))), y_1.snd.snd.fst, P.mput (fun (x y : (Int × Int) × Int) => P.and (P.and (P.ieq x.fst.fst y.fst.fst) (P.ieq x.fst.snd y.fst.snd)) (P.ieq x.snd y.snd)) (P.dtake (fun (x y : (Int × Int) × Int) => P.and (P.and (P.ieq x.fst.fst y.fst.fst) (P.ieq x.fst.snd y.fst.snd)) (P.ieq x.snd y.snd)) y_1.snd.snd.snd.fst ((P.get y.fst (P.wrap IntKind.i64 (P.sub (P.len y.fst) ((1 : Int)))) (((0 : Int), (0 : Int)), (0 : Int))).fst, P.get (P.get x.fst (P.get y.fst (P.wrap IntKind.i64 (P.sub (P.len y.fst) ((1 : Int)))) (((0 : Int), (0 : Int)), (0 : Int))).snd ((0 : Int), [], [])).snd.snd y_1.snd.fst ((0 : Int)))) ((P.get y.fst (P.wrap IntKind.i64 (P.sub (P.len y.fst) ((1 : Int)))) (((0 : Int), (0 : Int)), (0 : Int))).fst, P.get (P.get x.fst (P.get y.fst (P.wrap IntKind.i64 (P.sub (P.len y.fst) ((1 : Int)))) (((0 : Int), (0 : Int)), (0 : Int))).snd ((0 : Int), [], [])).snd.snd y_1.snd.fst ((0 : Int))) (some (P.app ys [P.get y.fst (P.wrap IntKind.i64 (P.sub (P.len y.fst) ((1 : Int)))) (((0 : Int), (0 : Int)), (0 : Int))])), y_1.snd.snd.snd.snd))) (some (Sum.inl (false, P.wrap IntKind.i64 (P.add y_1.snd.fst ((1 : Int))), y_1.snd.snd.fst, P.mput (fun (x y : (Int × Int) × Int) => P.and (P.and (P.ieq x.fst.fst y.fst.fst) (P.ieq x.fst.snd y.fst.snd)) (P.ieq x.snd y.snd)) (P.dtake (fun (x y : (Int × Int) × Int) => P.and (P.and (P.ieq x.fst.fst y.fst.fst) (P.ieq x.fst.snd y.fst.snd)) (P.ieq x.snd y.snd)) y_1.snd.snd.snd.fst ((P.get y.fst (P.wrap IntKind.i64 (P.sub (P.len y.fst) ((1 : Int)))) (((0 : Int), (0 : Int)), (0 : Int))).fst, P.get (P.get x.fst (P.get y.fst (P.wrap IntKind.i64 (P.sub (P.len y.fst) ((1 : Int)))) (((0 : Int), (0 : Int)), (0 : Int))).snd ((0 : Int), [], [])).snd.snd y_1.snd.fst ((0 : Int)))) ((P.get y.fst (P.wrap IntKind.i64 (P.sub (P.len y.fst) ((1 : Int)))) (((0 : Int), (0 : Int)), (0 : Int))).fst, P.get (P.get x.fst (P.get y.fst (P.wrap IntKind.i64 (P.sub (P.len y.fst) ((1 : Int)))) (((0 : Int), (0 : Int)), (0 : Int))).snd ((0 : Int), [], [])).snd.snd y_1.snd.fst ((0 : Int))) (some (P.app ys [P.get y.fst (P.wrap IntKind.i64 (P.sub (P.len y.fst) ((1 : Int)))) (((0 : Int), (0 : Int)), (0 : Int))])), y_1.snd.snd.snd.snd)))) none)) none) (some (Sum.inr (Sum.inl (y_1.fst, y_1.snd.snd.fst, y_1.snd.snd.snd.fst, y_1.snd.snd.snd.snd))))) (true, (0 : Int), y.snd.fst, y.snd.snd, P.sub_ y.fst ((0 : Int)) (P.wrap IntKind.i64 (P.sub (P.len y.fst) ((1 : Int)))))) (P.either (fun (z : Bool × List (((Int × Int) × Int) × Bool) × List (((Int × Int) × Int) × Option (List ((Int × Int) × Int))) × List ((Int × Int) × Int)) => P.cond (P.not z.fst) (some (Sum.inl (z.snd.snd.snd, z.snd.fst, z.snd.snd.fst))) (P.bind (P.dget (fun (x y : (Int × Int) × Int) => P.and (P.and (P.ieq x.fst.fst y.fst.fst) (P.ieq x.fst.snd y.fst.snd)) (P.ieq x.snd y.snd)) z.snd.snd.fst (P.get y.fst (P.wrap IntKind.i64 (P.sub (P.len y.fst) ((1 : Int)))) (((0 : Int), (0 : Int)), (0 : Int)))) fun (ys : List ((Int × Int) × Int)) => P.cond (P.room (P.add (P.len z.snd.snd.snd) (P.len ys)) 24) (some (Sum.inl (P.app z.snd.snd.snd ys, P.mput (fun (x y : (Int × Int) × Int) => P.and (P.and (P.ieq x.fst.fst y.fst.fst) (P.ieq x.fst.snd y.fst.snd)) (P.ieq x.snd y.snd)) z.snd.fst (P.get y.fst (P.wrap IntKind.i64 (P.sub (P.len y.fst) ((1 : Int)))) (((0 : Int), (0 : Int)), (0 : Int))) false, P.mdel (fun (x y : (Int × Int) × Int) => P.and (P.and (P.ieq x.fst.fst y.fst.fst) (P.ieq x.fst.snd y.fst.snd)) (P.ieq x.snd y.snd)) (P.dtake (fun (x y : (Int × Int) × Int) => P.and (P.and (P.ieq x.fst.fst y.fst.fst) (P.ieq x.fst.snd y.fst.snd)) (P.ieq x.snd y.snd)) z.snd.snd.fst (P.get y.fst (P.wrap IntKind.i64 (P.sub (P.len y.fst) ((1 : Int)))) (((0 : Int), (0 : Int)), (0 : Int)))) (P.get y.fst (P.wrap IntKind.i64 (P.sub (P.len y.fst) ((1 : Int)))) (((0 : Int), (0 : Int)), (0 : Int)))))) none)) fun (r : List ((Int × Int) × Int) × List (((Int × Int) × Int) × Bool) × List (((Int × Int) × Int) × Option (List ((Int × Int) × Int))) ⊕ List (((Int × Int) × Int) × Bool) × List (((Int × Int) × Int) × Option (List ((Int × Int) × Int))) ⊕ Bool) => some r)) (P.cond (P.not (P.ieq (P.mval (fun (x y : Int) => P.ieq x y) (P.mput (fun (x y : Int) => P.ieq x y) (P.mput (fun (x y : Int) => P.ieq x y) (P.mput (fun (x y : Int) => P.ieq x y) (P.mput (fun (x y : Int) => P.ieq x y) [] ((1 : Int)) ((0 : Int))) ((2 : Int)) ((1 : Int))) ((3 : Int)) ((2 : Int))) ((4 : Int)) ((4 : Int))) (P.get x.fst (P.get y.fst (P.wrap IntKind.i64 (P.sub (P.len y.fst) ((1 : Int)))) (((0 : Int), (0 : Int)), (0 : Int))).snd ((0 : Int), [], [])).fst ((0 : Int))) (P.get y.fst (P.wrap IntKind.i64 (P.sub (P.len y.fst) ((1 : Int)))) (((0 : Int), (0 : Int)), (0 : Int))).fst.fst)) (P.bind (P.dget (fun (x y : (Int × Int) × Int) => P.and (P.and (P.ieq x.fst.fst y.fst.fst) (P.ieq x.fst.snd y.fst.snd)) (P.ieq x.snd y.snd)) y.snd.snd (P.get y.fst (P.wrap IntKind.i64 (P.sub (P.len y.fst) ((1 : Int)))) (((0 : Int), (0 : Int)), (0 : Int)))) fun (ys : List ((Int × Int) × Int)) => P.cond (P.room (P.add (P.len (P.sub_ y.fst ((0 : Int)) (P.wrap IntKind.i64 (P.sub (P.len y.fst) ((1 : Int)))))) (P.len ys)) 24) (some (Sum.inl (P.app (P.sub_ y.fst ((0 : Int)) (P.wrap IntKind.i64 (P.sub (P.len y.fst) ((1 : Int))))) ys, P.mput (fun (x y : (Int × Int) × Int) => P.and (P.and (P.ieq x.fst.fst y.fst.fst) (P.ieq x.fst.snd y.fst.snd)) (P.ieq x.snd y.snd)) y.snd.fst (P.get y.fst (P.wrap IntKind.i64 (P.sub (P.len y.fst) ((1 : Int)))) (((0 : Int), (0 : Int)), (0 : Int))) false, P.mdel (fun (x y : (Int × Int) × Int) => P.and (P.and (P.ieq x.fst.fst y.fst.fst) (P.ieq x.fst.snd y.fst.snd)) (P.ieq x.snd y.snd)) (P.dtake (fun (x y : (Int × Int) × Int) => P.and (P.and (P.ieq x.fst.fst y.fst.fst) (P.ieq x.fst.snd y.fst.snd)) (P.ieq x.snd y.snd)) y.snd.snd (P.get y.fst (P.wrap IntKind.i64 (P.sub (P.len y.fst) ((1 : Int)))) (((0 : Int), (0 : Int)), (0 : Int)))) (P.get y.fst (P.wrap IntKind.i64 (P.sub (P.len y.fst) ((1 : Int)))) (((0 : Int), (0 : Int)), (0 : Int)))))) none) (P.bind (P.iter k (fun (y_1 : Bool × Int × List (((Int × Int) × Int) × Bool) × List (((Int × Int) × Int) × Option (List ((Int × Int) × Int))) × List ((Int × Int) × Int)) => P.cond (P.ilt y_1.snd.fst (P.len (P.get x.fst (P.get y.fst (P.wrap IntKind.i64 (P.sub (P.len y.fst) ((1 : Int)))) (((0 : Int), (0 : Int)), (0 : Int))).snd ((0 : Int), [], [])).snd.fst)) (P.cond (P.inb y_1.snd.fst (P.len (P.get x.fst (P.get y.fst (P.wrap IntKind.i64 (P.sub (P.len y.fst) ((1 : Int)))) (((0 : Int), (0 : Int)), (0 : Int))).snd ((0 : Int), [], [])).snd.fst)) (P.bind (store_Look k (x.snd.fst, (P.get y.fst (P.wrap IntKind.i64 (P.sub (P.len y.fst) ((1 : Int)))) (((0 : Int), (0 : Int)), (0 : Int))).fst, (P.get (P.get x.fst (P.get y.fst (P.wrap IntKind.i64 (P.sub (P.len y.fst) ((1 : Int)))) (((0 : Int), (0 : Int)), (0 : Int))).snd ((0 : Int), [], [])).snd.fst y_1.snd.fst ((ByteArray.mk #[]), (0 : Int))).fst)) fun (r : (Int × Int) × Bool) => P.cond r.snd (P.cond (P.not (P.mhas (fun (x y : (Int × Int) × Int) => P.and (P.and (P.ieq x.fst.fst y.fst.fst) (P.ieq x.fst.snd y.fst.snd)) (P.ieq x.snd y.snd)) y_1.snd.snd.fst (r.fst, (P.get (P.get x.fst (P.get y.fst (P.wrap IntKind.i64 (P.sub (P.len y.fst) ((1 : Int)))) (((0 : Int), (0 : Int)), (0 : Int))).snd ((0 : Int), [], [])).snd.fst y_1.snd.fst ((ByteArray.mk #[]), (0 : Int))).snd))) (P.cond (P.room (P.add (P.len y_1.snd.snd.snd.snd) (P.len [(r.fst, (P.get (P.get x.fst (P.get y.fst (P.wrap IntKind.i64 (P.sub (P.len y.fst) ((1 : Int)))) (((0 : Int), (0 : Int)), (0 : Int))).snd ((0 : Int), [], [])).snd.fst y_1.snd.fst ((ByteArray.mk #[]), (0 : Int))).snd)])) 24) (P.bind (P.dget (fun (x y : (Int × Int) × Int) => P.and (P.and (P.ieq x.fst.fst y.fst.fst) (P.ieq x.fst.snd y.fst.snd)) (P.ieq x.snd y.snd)) y_1.snd.snd.snd.fst (r.fst, (P.get (P.get x.fst (P.get y.fst (P.wrap IntKind.i64 (P.sub (P.len y.fst) ((1 : Int)))) (((0 : Int), (0 : Int)), (0 : Int))).snd ((0 : Int), [], [])).snd.fst y_1.snd.fst ((ByteArray.mk #[]), (0 : Int))).snd)) fun (ys : List ((Int × Int) × Int)) => P.cond (P.room (P.add (P.len ys) (P.len [P.get y.fst (P.wrap IntKind.i64 (P.sub (P.len y.fst) ((1 : Int)))) (((0 : Int), (0 : Int)), (0 : Int))])) 24) (some (Sum.inl (y_1.fst, P.wrap IntKind.i64 (P.add y_1.snd.fst ((1 : Int))), P.mput (fun (x y : (Int × Int) × Int) => P.and (P.and (P.ieq x.fst.fst y.fst.fst) (P.ieq x.fst.snd y.fst.snd)) (P.ieq x.snd y.snd)) y_1.snd.snd.fst (r.fst, (P.get (P.get x.fst (P.get y.fst (P.wrap IntKind.i64 (P.sub (P.len y.fst) ((1 : Int)))) (((0 : Int), (0 : Int)), (0 : Int))).snd ((0 : Int), [], [])).snd.fst y_1.snd.fst ((ByteArray.mk #[]), (0 : Int))).snd) true, P.mput (fun (x y : (Int × Int) × Int) => P.and (P.and (P.ieq x.fst.fst y.fst.fst) (P.ieq x.fst.snd y.fst.snd)) (P.ieq x.snd y.snd)) (P.dtake (fun (x y : (Int × Int) × Int) => P.and (P.and (P.ieq x.fst.fst y.fst.fst) (P.ieq x.fst.snd y.fst.snd)) (P.ieq x.snd y.snd)) y_1.snd.snd.snd.fst (r.fst, (P.get (P.get x.fst (P.get y.fst (P.wrap IntKind.i64 (P.sub (P.len y.fst) ((1 : Int)))) (((0 : Int), (0 : Int)), (0 : Int))).snd ((0 : Int), [], [])).snd.fst y_1.snd.fst ((ByteArray.mk #[]), (0 : Int))).snd)) (r.fst, (P.get (P.get x.fst (P.get y.fst (P.wrap IntKind.i64 (P.sub (P.len y.fst) ((1 : Int)))) (((0 : Int), (0 : Int)), (0 : Int))).snd ((0 : Int), [], [])).snd.fst y_1.snd.fst ((ByteArray.mk #[]), (0 : Int))).snd) (some (P.app ys [P.get y.fst (P.wrap IntKind.i64 (P.sub (P.len y.fst) ((1 : Int)))) (((0 : Int), (0 : Int)), (0 : Int))])), P.app y_1.snd.snd.snd.snd [(r.fst, (P.get (P.get x.fst (P.get y.fst (P.wrap IntKind.i64 (P.sub (P.len y.fst) ((1 : Int)))) (((0 : Int), (0 : Int)), (0 : Int))).snd ((0 : Int), [], [])).snd.fst y_1.snd.fst ((ByteArray.mk #[]), (0 : Int))).snd)]))) none) none) (P.bind (P.dget (fun (x y : (Int × Int) × Int) => P.and (P.and (P.ieq x.fst.fst y.fst.fst) (P.ieq x.fst.snd y.fst.snd)) (P.ieq x.snd y.snd)) y_1.snd.snd.snd.fst (r.fst, (P.get (P.get x.fst (P.get y.fst (P.wrap IntKind.i64 (P.sub (P.len y.fst) ((1 : Int)))) (((0 : Int), (0 : Int)), (0 : Int))).snd ((0 : Int), [], [])).snd.fst y_1.snd.fst ((ByteArray.mk #[]), (0 : Int))).snd)) fun (ys : List ((Int × Int) × Int)) => P.cond (P.room (P.add (P.len ys) (P.len [P.get y.fst (P.wrap IntKind.i64 (P.sub (P.len y.fst) ((1 : Int)))) (((0 : Int), (0 : Int)), (0 : Int))])) 24) (P.cond (P.mval (fun (x y : (Int × Int) × Int) => P.and (P.and (P.ieq x.fst.fst y.fst.fst) (P.ieq x.fst.snd y.fst.snd)) (P.ieq x.snd y.snd)) y_1.snd.snd.fst (r.fst, (P.get (P.get x.fst (P.get y.fst (P.wrap IntKind.i64 (P.sub (P.len y.fst) ((1 : Int)))) (((0 : Int), (0 : Int)), (0 : Int))).snd ((0 : Int), [], [])).snd.fst y_1.snd.fst ((ByteArray.mk #[]), (0 : Int))).snd) false) (some (Sum.inl (y_1.fst, P.wrap IntKind.i64 (P.add y_1.snd.fst ((1 : Int))), y_1.snd.snd.fst, P.mput (fun (x y : (Int × Int) × Int) => P.and (P.and (P.ieq x.fst.fst y.fst.fst) (P.ieq x.fst.snd y.fst.snd)) (P.ieq x.snd y.snd)) (P.dtake (fun (x y : (Int × Int) × Int) => P.and (P.and (P.ieq x.fst.fst y.fst.fst) (P.ieq x.fst.snd y.fst.snd)) (P.ieq x.snd y.snd)) y_1.snd.snd.snd.fst (r.fst, (P.get (P.get x.fst (P.get y.fst (P.wrap IntKind.i64 (P.sub (P.len y.fst) ((1 : Int)))) (((0 : Int), (0 : Int)), (0 : Int))).snd ((0 : Int), [], [])).snd.fst y_1.snd.fst ((ByteArray.mk #[]), (0 : Int))).snd)) (r.fst, (P.get (P.get x.fst (P.get y.fst (P.wrap IntKind.i64 (P.sub (P.len y.fst) ((1 : Int)))) (((0 : Int), (0 : Int)), (0 : Int))).snd ((0 : Int), [], [])).snd.fst y_1.snd.fst ((ByteArray.mk #[]), (0 : Int))).snd) (some (P.app ys [P.get y.fst (P.wrap IntKind.i64 (P.sub (P.len y.fst) ((1 : Int)))) (((0 : Int), (0 : Int)), (0 : Int))])), y_1.snd.snd.snd.snd))) (some (Sum.inl (false, P.wrap IntKind.i64 (P.add y_1.snd.fst ((1 : Int))), y_1.snd.snd.fst, P.mput (fun (x y : (Int × Int) × Int) => P.and (P.and (P.ieq x.fst.fst y.fst.fst) (P.ieq x.fst.snd y.fst.snd)) (P.ieq x.snd y.snd)) (P.dtake (fun (x y : (Int × Int) × Int) => P.and (P.and (P.ieq x.fst.fst y.fst.fst) (P.ieq x.fst.snd y.fst.snd)) (P.ieq x.snd y.snd)) y_1.snd.snd.snd.fst (r.fst, (P.get (P.get x.fst (P.get y.fst (P.wrap IntKind.i64 (P.sub (P.len y.fst) ((1 : Int)))) (((0 : Int), (0 : Int)), (0 : Int))).snd ((0 : Int), [], [])).snd.fst y_1.snd.fst ((ByteArray.mk #[]), (0 : Int))).snd)) (r.fst, (P.get (P.get x.fst (P.get y.fst (P.wrap IntKind.i64 (P.sub (P.len y.fst) ((1 : Int)))) (((0 : Int), (0 : Int)), (0 : Int))).snd ((0 : Int), [], [])).snd.fst y_1.snd.fst ((ByteArray.mk #[]), (0 : Int))).snd) (some (P.app ys [P.get y.fst (P.wrap IntKind.i64 (P.sub (P.len y.fst) ((1 : Int)))) (((0 : Int), (0 : Int)), (0 : Int))])), y_1.snd.snd.snd.snd)))) none)) (some (Sum.inl (false, P.wrap IntKind.i64 (P.add y_1.snd.fst ((1 : Int))), y_1.snd.snd.fst, y_1.snd.snd.snd.fst, y_1.snd.snd.snd.snd)))) none) (some (Sum.inr (Sum.inl (y_1.fst, y_1.snd.snd.fst, y_1.snd.snd.snd.fst, y_1.snd.snd.snd.snd))))) (true, (0 : Int), y.snd.fst, y.snd.snd, P.sub_ y.fst ((0 : Int)) (P.wrap IntKind.i64 (P.sub (P.len y.fst) ((1 : Int)))))) (P.either (fun (z : Bool × List (((Int × Int) × Int) × Bool) × List (((Int × Int) × Int) × Option (List ((Int × Int) × Int))) × List ((Int × Int) × Int)) => P.cond z.fst (some (Sum.inl (z.snd.snd.snd, z.snd.fst, z.snd.snd.fst))) (P.bind (P.dget (fun (x y : (Int × Int) × Int) => P.and (P.and (P.ieq x.fst.fst y.fst.fst) (P.ieq x.fst.snd y.fst.snd)) (P.ieq x.snd y.snd)) z.snd.snd.fst (P.get y.fst (P.wrap IntKind.i64 (P.sub (P.len y.fst) ((1 : Int)))) (((0 : Int), (0 : Int)), (0 : Int)))) fun (ys : List ((Int × Int) × Int)) => P.cond (P.room (P.add (P.len z.snd.snd.snd) (P.len ys)) 24) (some (Sum.inl (P.app z.snd.snd.snd ys, P.mput (fun (x y : (Int × Int) × Int) => P.and (P.and (P.ieq x.fst.fst y.fst.fst) (P.ieq x.fst.snd y.fst.snd)) (P.ieq x.snd y.snd)) z.snd.fst (P.get y.fst (P.wrap IntKind.i64 (P.sub (P.len y.fst) ((1 : Int)))) (((0 : Int), (0 : Int)), (0 : Int))) false, P.mdel (fun (x y : (Int × Int) × Int) => P.and (P.and (P.ieq x.fst.fst y.fst.fst) (P.ieq x.fst.snd y.fst.snd)) (P.ieq x.snd y.snd)) (P.dtake (fun (x y : (Int × Int) × Int) => P.and (P.and (P.ieq x.fst.fst y.fst.fst) (P.ieq x.fst.snd y.fst.snd)) (P.ieq x.snd y.snd)) z.snd.snd.fst (P.get y.fst (P.wrap IntKind.i64 (P.sub (P.len y.fst) ((1 : Int)))) (((0 : Int), (0 : Int)), (0 : Int)))) (P.get y.fst (P.wrap IntKind.i64 (P.sub (P.len y.fst) ((1 : Int)))) (((0 : Int), (0 : Int)), (0 : Int)))))) none)) fun (r : List ((Int × Int) × Int) × List (((Int × Int) × Int) × Bool) × List (((Int × Int) × Int) × Option (List ((Int × Int) × Int))) ⊕ List (((Int × Int) × Int) × Bool) × List (((Int × Int) × Int) × Option (List ((Int × Int) × Int))) ⊕ Bool) => some r))))) none)) none) none) (some (Sum.inr (Sum.inl (y.snd.fst, y.snd.snd))))) ([(x.snd.snd.fst, x.snd.snd.snd)], P.mput (fun (x y : (Int × Int) × Int) => P.and (P.and (P.ieq x.fst.fst y.fst.fst) (P.ieq x.fst.snd y.fst.snd)) (P.ieq x.snd y.snd)) [] (x.snd.snd.fst, x.snd.snd.snd) true, [])) (P.either (fun (z : List (((Int × Int) × Int) × Bool) × List (((Int × Int) × Int) × Option (List ((Int × Int) × Int)))) => some (P.mval (fun (x y : (Int × Int) × Int) => P.and (P.and (P.ieq x.fst.fst y.fst.fst) (P.ieq x.fst.snd y.fst.snd)) (P.ieq x.snd y.snd)) z.fst (x.snd.snd.fst, x.snd.snd.snd) false)) fun (r : Bool) => some r)))))
noncomputable abbrev EN25 (k : Nat) (sp : List (Nat × Go.PG.Spec)) : Go.PG.Env := { T := T, specs := sp, codes := codesI, k := k, maps := [(123, (.int .i64), (.int .i64)), (175, T_types_pair, .bool), (185, T_types_pair_126, .bool)], dmaps := [(176, T_types_pair, T_types_pair), (186, T_types_pair_126, T_types_pair_126)] }
theorem types_In_eq (k : Nat) (x : (Ty.D (.pair (.slice T_api_Type) (.pair (.slice T_api_Obj) (.pair T_api_Val (.int .i64)))))) : evFn (EN25 k [(17, ⟨(.slice T_api_Type), .bool, types_May k⟩), (66, ⟨(.pair (.slice T_api_Type) (.int .i64)), .bool, types_place k⟩), (76, ⟨(.slice T_api_Obj), .bool, store_May k⟩), (77, ⟨(.pair (.slice T_api_Obj) T_api_Val), .bool, store_Right k⟩), (82, ⟨(.pair (.slice T_api_Obj) (.pair T_api_Val .str)), (.pair T_api_Val .bool), store_Look k⟩)]) 6 Try.f25 [] (.pair (.slice T_api_Type) (.pair (.slice T_api_Obj) (.pair T_api_Val (.int .i64)))) .bool x = types_In k x := by kernel_rfl
theorem types_In_spec (k : Nat) : SpecOk Try.prog GG 25 ⟨(.pair (.slice T_api_Type) (.pair (.slice T_api_Obj) (.pair T_api_Val (.int .i64)))), .bool, types_In k⟩ :=
  fn_spec (envOk (E := EN25 k [(17, ⟨(.slice T_api_Type), .bool, types_May k⟩), (66, ⟨(.pair (.slice T_api_Type) (.int .i64)), .bool, types_place k⟩), (76, ⟨(.slice T_api_Obj), .bool, store_May k⟩), (77, ⟨(.pair (.slice T_api_Obj) T_api_Val), .bool, store_Right k⟩), (82, ⟨(.pair (.slice T_api_Obj) (.pair T_api_Val .str)), (.pair T_api_Val .bool), store_Look k⟩)]) tabOk (.cons (types_May_spec k) f17_at f17_ok <| .cons (types_place_spec k) f66_at f66_ok <| .cons (store_May_spec k) f76_at f76_ok <| .cons (store_Right_spec k) f77_at f77_ok <| .cons (store_Look_spec k) f82_at f82_ok <| .nil) codesIOk mixedOk (fun _ _ _ _ => trivial) (hmp := mapsOk) (hdm := dmapsOk)) f25_at (fun x => (types_In_eq k x).symm)
noncomputable def law24_three : (k : Nat) → (Ty.D .unit) → Option (Ty.D (.slice T_api_Type)) := fun (k : Nat) (x : Ty.unit.D) => some [((3 : Int), [], []), ((4 : Int), [((ByteArray.mk #[110]), (1 : Int)), ((ByteArray.mk #[112]), (0 : Int))], []), ((4 : Int), [((ByteArray.mk #[110]), (2 : Int))], [])]
noncomputable abbrev EN63 (k : Nat) (sp : List (Nat × Go.PG.Spec)) : Go.PG.Env := { T := T, specs := sp, codes := codes, k := k, maps := [(123, (.int .i64), (.int .i64)), (175, T_types_pair, .bool), (185, T_types_pair_126, .bool)], dmaps := [(176, T_types_pair, T_types_pair), (186, T_types_pair_126, T_types_pair_126)], calm := [0, 1] }
theorem law24_three_eq (k : Nat) (x : (Ty.D .unit)) : evFn (EN63 k []) 6 Try.f63 [] .unit (.slice T_api_Type) x = law24_three k x := by kernel_rfl
theorem law24_three_spec (k : Nat) : SpecOk Try.prog GG 63 ⟨.unit, (.slice T_api_Type), law24_three k⟩ :=
  fn_spec (envOk (E := EN63 k []) tabOk (.nil) codesOk mixedOk (fun _ _ _ _ => trivial) (hmp := mapsOk) (hdm := dmapsOk)) f63_at (fun x => (law24_three_eq k x).symm)
noncomputable def law24_fixed : (k : Nat) → (Ty.D .unit) → Option (Ty.D .bool) := fun (k : Nat) (x : Ty.unit.D) => P.bind (law24_three k PUnit.unit) fun (r : List (Int × List (ByteArray × Int) × List Int)) => P.bind (types_Sub k (r, (1 : Int), (2 : Int))) fun (r : Bool) => P.cond r (P.bind (law24_three k PUnit.unit) fun (r : List (Int × List (ByteArray × Int) × List Int)) => P.bind (types_Sub k (r, (2 : Int), (1 : Int))) fun (r : Bool) => P.cond (P.not r) (P.bind (law24_three k PUnit.unit) fun (r : List (Int × List (ByteArray × Int) × List Int)) => P.bind (types_May k r) fun (r : Bool) => P.cond r (P.bind (types_May k [((5 : Int), [], [(0 : Int)])]) fun (r : Bool) => P.cond (P.not r) (P.bind (law24_three k PUnit.unit) fun (r : List (Int × List (ByteArray × Int) × List Int)) => P.bind (types_In k (r, [([((ByteArray.mk #[110]), (4 : Int), (0 : Int))], (0 : Int), (0 : Int))], ((4 : Int), (0 : Int)), (2 : Int))) fun (r : Bool) => P.cond r (P.bind (law24_three k PUnit.unit) fun (r : List (Int × List (ByteArray × Int) × List Int)) => P.bind (types_In k (r, [([((ByteArray.mk #[110]), (4 : Int), (0 : Int))], (0 : Int), (0 : Int))], ((4 : Int), (0 : Int)), (1 : Int))) fun (r : Bool) => P.cond (P.not r) (P.bind (law24_three k PUnit.unit) fun (r : List (Int × List (ByteArray × Int) × List Int)) => P.bind (types_Equal k (r, (2 : Int), (2 : Int))) fun (r : Bool) => P.cond r (P.bind (law24_three k PUnit.unit) fun (r : List (Int × List (ByteArray × Int) × List Int)) => P.bind (types_Equal k (r, (1 : Int), (2 : Int))) fun (r : Bool) => some (P.not r)) (some false)) (some false)) (some false)) (some false)) (some false)) (some false)) (some false)
noncomputable abbrev EN16 (k : Nat) (sp : List (Nat × Go.PG.Spec)) : Go.PG.Env := { T := T, specs := sp, codes := codes, k := k, maps := [(123, (.int .i64), (.int .i64)), (175, T_types_pair, .bool), (185, T_types_pair_126, .bool)], dmaps := [(176, T_types_pair, T_types_pair), (186, T_types_pair_126, T_types_pair_126)], calm := [0, 1] }
theorem law24_fixed_eq (k : Nat) (x : (Ty.D .unit)) : evFn (EN16 k [(17, ⟨(.slice T_api_Type), .bool, types_May k⟩), (19, ⟨(.pair (.slice T_api_Type) (.pair (.int .i64) (.int .i64))), .bool, types_Sub k⟩), (21, ⟨(.pair (.slice T_api_Type) (.pair (.int .i64) (.int .i64))), .bool, types_Equal k⟩), (25, ⟨(.pair (.slice T_api_Type) (.pair (.slice T_api_Obj) (.pair T_api_Val (.int .i64)))), .bool, types_In k⟩), (63, ⟨.unit, (.slice T_api_Type), law24_three k⟩)]) 6 Try.f16 [] .unit .bool x = law24_fixed k x := by kernel_rfl
theorem law24_fixed_spec (k : Nat) : SpecOk Try.prog GG 16 ⟨.unit, .bool, law24_fixed k⟩ :=
  fn_spec (envOk (E := EN16 k [(17, ⟨(.slice T_api_Type), .bool, types_May k⟩), (19, ⟨(.pair (.slice T_api_Type) (.pair (.int .i64) (.int .i64))), .bool, types_Sub k⟩), (21, ⟨(.pair (.slice T_api_Type) (.pair (.int .i64) (.int .i64))), .bool, types_Equal k⟩), (25, ⟨(.pair (.slice T_api_Type) (.pair (.slice T_api_Obj) (.pair T_api_Val (.int .i64)))), .bool, types_In k⟩), (63, ⟨.unit, (.slice T_api_Type), law24_three k⟩)]) tabOk (.cons (types_May_spec k) f17_at f17_ok <| .cons (types_Sub_spec k) f19_at f19_ok <| .cons (types_Equal_spec k) f21_at f21_ok <| .cons (types_In_spec k) f25_at f25_ok <| .cons (law24_three_spec k) f63_at f63_ok <| .nil) codesOk mixedOk (fun _ _ _ _ => trivial) (hmp := mapsOk) (hdm := dmapsOk)) f16_at (fun x => (law24_fixed_eq k x).symm)
noncomputable def ref24_May : (k : Nat) → (Ty.D (.slice T_api_Type)) → Option (Ty.D .bool) := fun (k : Nat) (x : T_api_Type.slice.D) => P.bind (P.iter k (fun (y : Int) => P.cond (P.ilt y (P.len x)) (P.cond (P.inb y (P.len x)) (P.cond (P.ilt (P.get x y ((0 : Int), [], [])).fst ((0 : Int))) (some (Sum.inr (Sum.inr false))) (P.cond (P.ilt ((5 : Int)) (P.get x y ((0 : Int), [], [])).fst) (some (Sum.inr (Sum.inr false))) (P.cond (P.not (P.ieq (P.get x y ((0 : Int), [], [])).fst ((4 : Int)))) (P.cond (P.ilt ((0 : Int)) (P.len (P.get x y ((0 : Int), [], [])).snd.fst)) (some (Sum.inr (Sum.inr false))) (P.cond (P.not (P.ieq (P.get x y ((0 : Int), [], [])).fst ((5 : Int)))) (P.cond (P.ilt ((0 : Int)) (P.len (P.get x y ((0 : Int), [], [])).snd.snd)) (some (Sum.inr (Sum.inr false))) (P.bind (P.iter k (fun (y_1 : Int) => P.cond (P.ilt y_1 (P.len (P.get x y ((0 : Int), [], [])).snd.fst)) (P.cond (P.inb y_1 (P.len (P.get x y ((0 : Int), [], [])).snd.fst)) (P.cond (P.ilt (P.get (P.get x y ((0 : Int), [], [])).snd.fst y_1 ((ByteArray.mk #[]), (0 : Int))).snd ((0 : Int))) (some (Sum.inr (Sum.inr (Sum.inr (Sum.inr false))))) (P.cond (P.inb y_1 (P.len (P.get x y ((0 : Int), [], [])).snd.fst)) (P.cond (P.ile (P.len x) (P.get (P.get x y ((0 : Int), [], [])).snd.fst y_1 ((ByteArray.mk #[]), (0 : Int))).snd) (some (Sum.inr (Sum.inr (Sum.inr (Sum.inr false))))) (P.cond (P.ilt ((0 : Int)) y_1) (P.cond (P.inb (P.wrap IntKind.i64 (P.sub y_1 ((1 : Int)))) (P.len (P.get x y ((0 : Int), [], [])).snd.fst)) (P.cond (P.inb y_1 (P.len (P.get x y ((0 : Int), [], [])).snd.fst)) (P.cond (P.not (P.slt (P.get (P.get x y ((0 : Int), [], [])).snd.fst (P.wrap IntKind.i64 (P.sub y_1 ((1 : Int)))) ((ByteArray.mk #[]), (0 : Int))).fst (P.get (P.get x y ((0 : Int), [], [])).snd.fst y_1 ((ByteArray.mk #[]), (0 : Int))).fst)) (some (Sum.inr (Sum.inr (Sum.inr (Sum.inr false))))) (some (Sum.inl (P.wrap IntKind.i64 (P.add y_1 ((1 : Int))))))) none) none) (some (Sum.inl (P.wrap IntKind.i64 (P.add y_1 ((1 : Int)))))))) none)) none) (some (Sum.inr (Sum.inl PUnit.unit)))) ((0 : Int))) (P.either (fun (z : PUnit) => P.bind (P.iter k (fun (y_1 : Int) => P.cond (P.ilt y_1 (P.len (P.get x y ((0 : Int), [], [])).snd.snd)) (P.cond (P.inb y_1 (P.len (P.get x y ((0 : Int), [], [])).snd.snd)) (P.cond (P.ilt (P.get (P.get x y ((0 : Int), [], [])).snd.snd y_1 ((0 : Int))) ((0 : Int))) (some (Sum.inr (Sum.inr (Sum.inr (Sum.inr false))))) (P.cond (P.inb y_1 (P.len (P.get x y ((0 : Int), [], [])).snd.snd)) (P.cond (P.ile y (P.get (P.get x y ((0 : Int), [], [])).snd.snd y_1 ((0 : Int)))) (some (Sum.inr (Sum.inr (Sum.inr (Sum.inr false))))) (some (Sum.inl (P.wrap IntKind.i64 (P.add y_1 ((1 : Int))))))) none)) none) (some (Sum.inr (Sum.inl PUnit.unit)))) ((0 : Int))) (P.either (fun (z : PUnit) => some (Sum.inl (P.wrap IntKind.i64 (P.add y ((1 : Int)))))) fun (r : Int ⊕ PUnit ⊕ Bool) => some r)) fun (r : Int ⊕ PUnit ⊕ Bool) => some r))) (P.bind (P.iter k (fun (y_1 : Int) => P.cond (P.ilt y_1 (P.len (P.get x y ((0 : Int), [], [])).snd.fst)) (P.cond (P.inb y_1 (P.len (P.get x y ((0 : Int), [], [])).snd.fst)) (P.cond (P.ilt (P.get (P.get x y ((0 : Int), [], [])).snd.fst y_1 ((ByteArray.mk #[]), (0 : Int))).snd ((0 : Int))) (some (Sum.inr (Sum.inr (Sum.inr (Sum.inr false))))) (P.cond (P.inb y_1 (P.len (P.get x y ((0 : Int), [], [])).snd.fst)) (P.cond (P.ile (P.len x) (P.get (P.get x y ((0 : Int), [], [])).snd.fst y_1 ((ByteArray.mk #[]), (0 : Int))).snd) (some (Sum.inr (Sum.inr (Sum.inr (Sum.inr false))))) (P.cond (P.ilt ((0 : Int)) y_1) (P.cond (P.inb (P.wrap IntKind.i64 (P.sub y_1 ((1 : Int)))) (P.len (P.get x y ((0 : Int), [], [])).snd.fst)) (P.cond (P.inb y_1 (P.len (P.get x y ((0 : Int), [], [])).snd.fst)) (P.cond (P.not (P.slt (P.get (P.get x y ((0 : Int), [], [])).snd.fst (P.wrap IntKind.i64 (P.sub y_1 ((1 : Int)))) ((ByteArray.mk #[]), (0 : Int))).fst (P.get (P.get x y ((0 : Int), [], [])).snd.fst y_1 ((ByteArray.mk #[]), (0 : Int))).fst)) (some (Sum.inr (Sum.inr (Sum.inr (Sum.inr false))))) (some (Sum.inl (P.wrap IntKind.i64 (P.add y_1 ((1 : Int))))))) none) none) (some (Sum.inl (P.wrap IntKind.i64 (P.add y_1 ((1 : Int)))))))) none)) none) (some (Sum.inr (Sum.inl PUnit.unit)))) ((0 : Int))) (P.either (fun (z : PUnit) => P.bind (P.iter k (fun (y_1 : Int) => P.cond (P.ilt y_1 (P.len (P.get x y ((0 : Int), [], [])).snd.snd)) (P.cond (P.inb y_1 (P.len (P.get x y ((0 : Int), [], [])).snd.snd)) (P.cond (P.ilt (P.get (P.get x y ((0 : Int), [], [])).snd.snd y_1 ((0 : Int))) ((0 : Int))) (some (Sum.inr (Sum.inr (Sum.inr (Sum.inr false))))) (P.cond (P.inb y_1 (P.len (P.get x y ((0 : Int), [], [])).snd.snd)) (P.cond (P.ile y (P.get (P.get x y ((0 : Int), [], [])).snd.snd y_1 ((0 : Int)))) (some (Sum.inr (Sum.inr (Sum.inr (Sum.inr false))))) (some (Sum.inl (P.wrap IntKind.i64 (P.add y_1 ((1 : Int))))))) none)) none) (some (Sum.inr (Sum.inl PUnit.unit)))) ((0 : Int))) (P.either (fun (z : PUnit) => some (Sum.inl (P.wrap IntKind.i64 (P.add y ((1 : Int)))))) fun (r : Int ⊕ PUnit ⊕ Bool) => some r)) fun (r : Int ⊕ PUnit ⊕ Bool) => some r)))) (P.cond (P.not (P.ieq (P.get x y ((0 : Int), [], [])).fst ((5 : Int)))) (P.cond (P.ilt ((0 : Int)) (P.len (P.get x y ((0 : Int), [], [])).snd.snd)) (some (Sum.inr (Sum.inr false))) (P.bind (P.iter k (fun (y_1 : Int) => P.cond (P.ilt y_1 (P.len (P.get x y ((0 : Int), [], [])).snd.fst)) (P.cond (P.inb y_1 (P.len (P.get x y ((0 : Int), [], [])).snd.fst)) (P.cond (P.ilt (P.get (P.get x y ((0 : Int), [], [])).snd.fst y_1 ((ByteArray.mk #[]), (0 : Int))).snd ((0 : Int))) (some (Sum.inr (Sum.inr (Sum.inr (Sum.inr false))))) (P.cond (P.inb y_1 (P.len (P.get x y ((0 : Int), [], [])).snd.fst)) (P.cond (P.ile (P.len x) (P.get (P.get x y ((0 : Int), [], [])).snd.fst y_1 ((ByteArray.mk #[]), (0 : Int))).snd) (some (Sum.inr (Sum.inr (Sum.inr (Sum.inr false))))) (P.cond (P.ilt ((0 : Int)) y_1) (P.cond (P.inb (P.wrap IntKind.i64 (P.sub y_1 ((1 : Int)))) (P.len (P.get x y ((0 : Int), [], [])).snd.fst)) (P.cond (P.inb y_1 (P.len (P.get x y ((0 : Int), [], [])).snd.fst)) (P.cond (P.not (P.slt (P.get (P.get x y ((0 : Int), [], [])).snd.fst (P.wrap IntKind.i64 (P.sub y_1 ((1 : Int)))) ((ByteArray.mk #[]), (0 : Int))).fst (P.get (P.get x y ((0 : Int), [], [])).snd.fst y_1 ((ByteArray.mk #[]), (0 : Int))).fst)) (some (Sum.inr (Sum.inr (Sum.inr (Sum.inr false))))) (some (Sum.inl (P.wrap IntKind.i64 (P.add y_1 ((1 : Int))))))) none) none) (some (Sum.inl (P.wrap IntKind.i64 (P.add y_1 ((1 : Int)))))))) none)) none) (some (Sum.inr (Sum.inl PUnit.unit)))) ((0 : Int))) (P.either (fun (z : PUnit) => P.bind (P.iter k (fun (y_1 : Int) => P.cond (P.ilt y_1 (P.len (P.get x y ((0 : Int), [], [])).snd.snd)) (P.cond (P.inb y_1 (P.len (P.get x y ((0 : Int), [], [])).snd.snd)) (P.cond (P.ilt (P.get (P.get x y ((0 : Int), [], [])).snd.snd y_1 ((0 : Int))) ((0 : Int))) (some (Sum.inr (Sum.inr (Sum.inr (Sum.inr false))))) (P.cond (P.inb y_1 (P.len (P.get x y ((0 : Int), [], [])).snd.snd)) (P.cond (P.ile y (P.get (P.get x y ((0 : Int), [], [])).snd.snd y_1 ((0 : Int)))) (some (Sum.inr (Sum.inr (Sum.inr (Sum.inr false))))) (some (Sum.inl (P.wrap IntKind.i64 (P.add y_1 ((1 : Int))))))) none)) none) (some (Sum.inr (Sum.inl PUnit.unit)))) ((0 : Int))) (P.either (fun (z : PUnit) => some (Sum.inl (P.wrap IntKind.i64 (P.add y ((1 : Int)))))) fun (r : Int ⊕ PUnit ⊕ Bool) => some r)) fun (r : Int ⊕ PUnit ⊕ Bool) => some r))) (P.bind (P.iter k (fun (y_1 : Int) => P.cond (P.ilt y_1 (P.len (P.get x y ((0 : Int), [], [])).snd.fst)) (P.cond (P.inb y_1 (P.len (P.get x y ((0 : Int), [], [])).snd.fst)) (P.cond (P.ilt (P.get (P.get x y ((0 : Int), [], [])).snd.fst y_1 ((ByteArray.mk #[]), (0 : Int))).snd ((0 : Int))) (some (Sum.inr (Sum.inr (Sum.inr (Sum.inr false))))) (P.cond (P.inb y_1 (P.len (P.get x y ((0 : Int), [], [])).snd.fst)) (P.cond (P.ile (P.len x) (P.get (P.get x y ((0 : Int), [], [])).snd.fst y_1 ((ByteArray.mk #[]), (0 : Int))).snd) (some (Sum.inr (Sum.inr (Sum.inr (Sum.inr false))))) (P.cond (P.ilt ((0 : Int)) y_1) (P.cond (P.inb (P.wrap IntKind.i64 (P.sub y_1 ((1 : Int)))) (P.len (P.get x y ((0 : Int), [], [])).snd.fst)) (P.cond (P.inb y_1 (P.len (P.get x y ((0 : Int), [], [])).snd.fst)) (P.cond (P.not (P.slt (P.get (P.get x y ((0 : Int), [], [])).snd.fst (P.wrap IntKind.i64 (P.sub y_1 ((1 : Int)))) ((ByteArray.mk #[]), (0 : Int))).fst (P.get (P.get x y ((0 : Int), [], [])).snd.fst y_1 ((ByteArray.mk #[]), (0 : Int))).fst)) (some (Sum.inr (Sum.inr (Sum.inr (Sum.inr false))))) (some (Sum.inl (P.wrap IntKind.i64 (P.add y_1 ((1 : Int))))))) none) none) (some (Sum.inl (P.wrap IntKind.i64 (P.add y_1 ((1 : Int)))))))) none)) none) (some (Sum.inr (Sum.inl PUnit.unit)))) ((0 : Int))) (P.either (fun (z : PUnit) => P.bind (P.iter k (fun (y_1 : Int) => P.cond (P.ilt y_1 (P.len (P.get x y ((0 : Int), [], [])).snd.snd)) (P.cond (P.inb y_1 (P.len (P.get x y ((0 : Int), [], [])).snd.snd)) (P.cond (P.ilt (P.get (P.get x y ((0 : Int), [], [])).snd.snd y_1 ((0 : Int))) ((0 : Int))) (some (Sum.inr (Sum.inr (Sum.inr (Sum.inr false))))) (P.cond (P.inb y_1 (P.len (P.get x y ((0 : Int), [], [])).snd.snd)) (P.cond (P.ile y (P.get (P.get x y ((0 : Int), [], [])).snd.snd y_1 ((0 : Int)))) (some (Sum.inr (Sum.inr (Sum.inr (Sum.inr false))))) (some (Sum.inl (P.wrap IntKind.i64 (P.add y_1 ((1 : Int))))))) none)) none) (some (Sum.inr (Sum.inl PUnit.unit)))) ((0 : Int))) (P.either (fun (z : PUnit) => some (Sum.inl (P.wrap IntKind.i64 (P.add y ((1 : Int)))))) fun (r : Int ⊕ PUnit ⊕ Bool) => some r)) fun (r : Int ⊕ PUnit ⊕ Bool) => some r)))))) none) (some (Sum.inr (Sum.inl PUnit.unit)))) ((0 : Int))) (P.either (fun (z : PUnit) => some (P.ile (P.len x) ((200 : Int)))) fun (r : Bool) => some r)
theorem ref24_May_eq (k : Nat) (x : (Ty.D (.slice T_api_Type))) : evFn (EN k []) 6 Try.f18 [(2, ⟨[.var 3 (.d (.int .i64))], [], (some (0, []))⟩), (8, ⟨[.var 5 (.d (.int .i64))], [], (some (2, []))⟩), (13, ⟨[.var 6 (.d (.int .i64))], [], (some (4, []))⟩)] (.slice T_api_Type) .bool x = ref24_May k x := by kernel_rfl
theorem ref24_May_spec (k : Nat) : SpecOk Try.prog GG 18 ⟨(.slice T_api_Type), .bool, ref24_May k⟩ :=
  fn_spec (envOk (E := EN k []) tabOk (.nil) codesOk mixedOk (fun _ _ _ _ => trivial) (hmp := mapsOk) (hdm := dmapsOk)) f18_at (fun x => (ref24_May_eq k x).symm)
noncomputable def ref24_Field : (k : Nat) → (Ty.D (.pair T_api_Type .str)) → Option (Ty.D (.pair (.int .i64) .bool)) := fun (k : Nat) (x : (T_api_Type.pair Ty.str).D) => P.bind (P.iter k (fun (y : Int) => P.cond (P.ilt y (P.len x.fst.snd.fst)) (P.cond (P.inb y (P.len x.fst.snd.fst)) (P.cond (P.seq (P.get x.fst.snd.fst y ((ByteArray.mk #[]), (0 : Int))).fst x.snd) (P.cond (P.inb y (P.len x.fst.snd.fst)) (some (Sum.inr (Sum.inr ((P.get x.fst.snd.fst y ((ByteArray.mk #[]), (0 : Int))).snd, true)))) none) (some (Sum.inl (P.wrap IntKind.i64 (P.add y ((1 : Int))))))) none) (some (Sum.inr (Sum.inl PUnit.unit)))) ((0 : Int))) (P.either (fun (z : PUnit) => some ((0 : Int), false)) fun (r : Int × Bool) => some r)
theorem ref24_Field_eq (k : Nat) (x : (Ty.D (.pair T_api_Type .str))) : evFn (EN k []) 6 Try.f137 [(2, ⟨[.var 6 (.d (.int .i64))], [], (some (0, []))⟩)] (.pair T_api_Type .str) (.pair (.int .i64) .bool) x = ref24_Field k x := by kernel_rfl
theorem ref24_Field_spec (k : Nat) : SpecOk Try.prog GG 137 ⟨(.pair T_api_Type .str), (.pair (.int .i64) .bool), ref24_Field k⟩ :=
  fn_spec (envOk (E := EN k []) tabOk (.nil) codesOk mixedOk (fun _ _ _ _ => trivial) (hmp := mapsOk) (hdm := dmapsOk)) f137_at (fun x => (ref24_Field_eq k x).symm)
noncomputable def ref24_rule : (k : Nat) → (Ty.D (.pair (.slice T_api_Type) (.pair (.slice .bool) (.pair (.int .i64) (.int .i64))))) → Option (Ty.D .bool) := fun (k : Nat) (x : (T_api_Type.slice.pair (Ty.bool.slice.pair ((Ty.int IntKind.i64).pair (Ty.int IntKind.i64)))).D) => P.cond (P.inb x.snd.snd.fst (P.len x.fst)) (P.cond (P.inb x.snd.snd.snd (P.len x.fst)) (P.cond (P.ieq (P.get x.fst x.snd.snd.fst ((0 : Int), [], [])).fst ((5 : Int))) (P.bind (P.iter k (fun (y : Int) => P.cond (P.ilt y (P.len (P.get x.fst x.snd.snd.fst ((0 : Int), [], [])).snd.snd)) (P.cond (P.inb y (P.len (P.get x.fst x.snd.snd.fst ((0 : Int), [], [])).snd.snd)) (P.cond (P.inb (P.wrap IntKind.i64 (P.add (P.wrap IntKind.i64 (P.mul (P.get (P.get x.fst x.snd.snd.fst ((0 : Int), [], [])).snd.snd y ((0 : Int))) (P.len x.fst))) x.snd.snd.snd)) (P.len x.snd.fst)) (P.cond (P.not (P.get x.snd.fst (P.wrap IntKind.i64 (P.add (P.wrap IntKind.i64 (P.mul (P.get (P.get x.fst x.snd.snd.fst ((0 : Int), [], [])).snd.snd y ((0 : Int))) (P.len x.fst))) x.snd.snd.snd)) false)) (some (Sum.inr (Sum.inr false))) (some (Sum.inl (P.wrap IntKind.i64 (P.add y ((1 : Int))))))) none) none) (some (Sum.inr (Sum.inl PUnit.unit)))) ((0 : Int))) (P.either (fun (z : PUnit) => some true) fun (r : Bool) => some r)) (P.cond (P.ieq (P.get x.fst x.snd.snd.snd ((0 : Int), [], [])).fst ((5 : Int))) (P.bind (P.iter k (fun (y : Int) => P.cond (P.ilt y (P.len (P.get x.fst x.snd.snd.snd ((0 : Int), [], [])).snd.snd)) (P.cond (P.inb y (P.len (P.get x.fst x.snd.snd.snd ((0 : Int), [], [])).snd.snd)) (P.cond (P.inb (P.wrap IntKind.i64 (P.add (P.wrap IntKind.i64 (P.mul x.snd.snd.fst (P.len x.fst))) (P.get (P.get x.fst x.snd.snd.snd ((0 : Int), [], [])).snd.snd y ((0 : Int))))) (P.len x.snd.fst)) (P.cond (P.get x.snd.fst (P.wrap IntKind.i64 (P.add (P.wrap IntKind.i64 (P.mul x.snd.snd.fst (P.len x.fst))) (P.get (P.get x.fst x.snd.snd.snd ((0 : Int), [], [])).snd.snd y ((0 : Int))))) false) (some (Sum.inr (Sum.inr true))) (some (Sum.inl (P.wrap IntKind.i64 (P.add y ((1 : Int))))))) none) none) (some (Sum.inr (Sum.inl PUnit.unit)))) ((0 : Int))) (P.either (fun (z : PUnit) => some false) fun (r : Bool) => some r)) (P.cond (P.ieq (P.get x.fst x.snd.snd.snd ((0 : Int), [], [])).fst ((0 : Int))) (some true) (P.cond (P.not (P.ieq (P.get x.fst x.snd.snd.fst ((0 : Int), [], [])).fst (P.get x.fst x.snd.snd.snd ((0 : Int), [], [])).fst)) (some false) (P.bind (P.iter k (fun (y : Int) => P.cond (P.ilt y (P.len (P.get x.fst x.snd.snd.snd ((0 : Int), [], [])).snd.fst)) (P.cond (P.inb y (P.len (P.get x.fst x.snd.snd.snd ((0 : Int), [], [])).snd.fst)) (P.bind (ref24_Field k (P.get x.fst x.snd.snd.fst ((0 : Int), [], []), (P.get (P.get x.fst x.snd.snd.snd ((0 : Int), [], [])).snd.fst y ((ByteArray.mk #[]), (0 : Int))).fst)) fun (r : Int × Bool) => P.cond (P.not r.snd) (some (Sum.inr (Sum.inr false))) (P.cond (P.inb y (P.len (P.get x.fst x.snd.snd.snd ((0 : Int), [], [])).snd.fst)) (P.cond (P.inb (P.wrap IntKind.i64 (P.add (P.wrap IntKind.i64 (P.mul r.fst (P.len x.fst))) (P.get (P.get x.fst x.snd.snd.snd ((0 : Int), [], [])).snd.fst y ((ByteArray.mk #[]), (0 : Int))).snd)) (P.len x.snd.fst)) (P.cond (P.not (P.get x.snd.fst (P.wrap IntKind.i64 (P.add (P.wrap IntKind.i64 (P.mul r.fst (P.len x.fst))) (P.get (P.get x.fst x.snd.snd.snd ((0 : Int), [], [])).snd.fst y ((ByteArray.mk #[]), (0 : Int))).snd)) false)) (some (Sum.inr (Sum.inr false))) (some (Sum.inl (P.wrap IntKind.i64 (P.add y ((1 : Int))))))) none) none)) none) (some (Sum.inr (Sum.inl PUnit.unit)))) ((0 : Int))) (P.either (fun (z : PUnit) => some true) fun (r : Bool) => some r)))))) none) none
theorem ref24_rule_eq (k : Nat) (x : (Ty.D (.pair (.slice T_api_Type) (.pair (.slice .bool) (.pair (.int .i64) (.int .i64)))))) : evFn (EN k [(137, ⟨(.pair T_api_Type .str), (.pair (.int .i64) .bool), ref24_Field k⟩)]) 6 Try.f75 [(5, ⟨[.var 12 (.d (.int .i64))], [], (some (0, []))⟩), (12, ⟨[.var 13 (.d (.int .i64))], [], (some (2, []))⟩), (22, ⟨[.var 14 (.d (.int .i64))], [], (some (4, []))⟩)] (.pair (.slice T_api_Type) (.pair (.slice .bool) (.pair (.int .i64) (.int .i64)))) .bool x = ref24_rule k x := by kernel_rfl
theorem ref24_rule_spec (k : Nat) : SpecOk Try.prog GG 75 ⟨(.pair (.slice T_api_Type) (.pair (.slice .bool) (.pair (.int .i64) (.int .i64)))), .bool, ref24_rule k⟩ :=
  fn_spec (envOk (E := EN k [(137, ⟨(.pair T_api_Type .str), (.pair (.int .i64) .bool), ref24_Field k⟩)]) tabOk (.cons (ref24_Field_spec k) f137_at f137_ok <| .nil) codesOk mixedOk (fun _ _ _ _ => trivial) (hmp := mapsOk) (hdm := dmapsOk)) f75_at (fun x => (ref24_rule_eq k x).symm)
noncomputable def ref24_Sub : (k : Nat) → (Ty.D (.pair (.slice T_api_Type) (.pair (.int .i64) (.int .i64)))) → Option (Ty.D .bool) := fun (k : Nat) (x : (T_api_Type.slice.pair ((Ty.int IntKind.i64).pair (Ty.int IntKind.i64))).D) => P.bind (ref24_May k x.fst) fun (r : Bool) => P.cond (P.not r) (some false) (P.cond (P.ilt x.snd.fst ((0 : Int))) (some false) (P.cond (P.ilt x.snd.snd ((0 : Int))) (some false) (P.cond (P.ile (P.len x.fst) x.snd.fst) (some false) (P.cond (P.ile (P.len x.fst) x.snd.snd) (some false) (P.bind (P.iter k (fun (y : List Bool × Int) => P.cond (P.ilt y.snd (P.wrap IntKind.i64 (P.mul (P.len x.fst) (P.len x.fst)))) (P.cond (P.room (P.add (P.len y.fst) (P.len [true])) 1) (some (Sum.inl (P.app y.fst [true], P.wrap IntKind.i64 (P.add y.snd ((1 : Int)))))) none) (some (Sum.inr (Sum.inl y.fst)))) ([], (0 : Int))) (P.either (fun (z : List Bool) => P.iter k (fun (y : List Bool) => P.bind (P.iter k (fun (y : Bool × Int × List Bool) => P.cond (P.ilt y.snd.fst (P.len x.fst)) (P.bind (P.iter k (fun (y_1 : Bool × Int × List Bool) => P.cond (P.ilt y_1.snd.fst (P.len x.fst)) (P.cond (P.inb (P.wrap IntKind.i64 (P.add (P.wrap IntKind.i64 (P.mul y.snd.fst (P.len x.fst))) y_1.snd.fst)) (P.len y_1.snd.snd)) (P.cond (P.get y_1.snd.snd (P.wrap IntKind.i64 (P.add (P.wrap IntKind.i64 (P.mul y.snd.fst (P.len x.fst))) y_1.snd.fst)) false) (P.bind (ref24_rule k (x.fst, y_1.snd.snd, y.snd.fst, y_1.snd.fst)) fun (r : Bool) => P.cond (P.not r) (P.cond (P.inb (P.wrap IntKind.i64 (P.add (P.wrap IntKind.i64 (P.mul y.snd.fst (P.len x.fst))) y_1.snd.fst)) (P.len y_1.snd.snd)) (some (Sum.inl (true, P.wrap IntKind.i64 (P.add y_1.snd.fst ((1 : Int))), P.set y_1.snd.snd (P.wrap IntKind.i64 (P.add (P.wrap IntKind.i64 (P.mul y.snd.fst (P.len x.fst))) y_1.snd.fst)) false))) none) (some (Sum.inl (y_1.fst, P.wrap IntKind.i64 (P.add y_1.snd.fst ((1 : Int))), y_1.snd.snd)))) (some (Sum.inl (y_1.fst, P.wrap IntKind.i64 (P.add y_1.snd.fst ((1 : Int))), y_1.snd.snd)))) none) (some (Sum.inr (Sum.inl (y_1.fst, y_1.snd.snd))))) (y.fst, (0 : Int), y.snd.snd)) (P.either (fun (z : Bool × List Bool) => some (Sum.inl (z.fst, P.wrap IntKind.i64 (P.add y.snd.fst ((1 : Int))), z.snd))) fun (r : Bool × Int × List Bool ⊕ Bool × List Bool ⊕ List Bool ⊕ Bool) => some r)) (some (Sum.inr (Sum.inl (y.fst, y.snd.snd))))) (false, (0 : Int), y)) (P.either (fun (z : Bool × List Bool) => P.cond (P.not z.fst) (P.cond (P.inb (P.wrap IntKind.i64 (P.add (P.wrap IntKind.i64 (P.mul x.snd.fst (P.len x.fst))) x.snd.snd)) (P.len z.snd)) (some (Sum.inr (P.get z.snd (P.wrap IntKind.i64 (P.add (P.wrap IntKind.i64 (P.mul x.snd.fst (P.len x.fst))) x.snd.snd)) false))) none) (some (Sum.inl z.snd))) fun (r : List Bool ⊕ Bool) => some r)) z) fun (r : Bool) => some r))))))
theorem ref24_Sub_eq (k : Nat) (x : (Ty.D (.pair (.slice T_api_Type) (.pair (.int .i64) (.int .i64))))) : evFn (EN k [(18, ⟨(.slice T_api_Type), .bool, ref24_May k⟩), (75, ⟨(.pair (.slice T_api_Type) (.pair (.slice .bool) (.pair (.int .i64) (.int .i64)))), .bool, ref24_rule k⟩)]) 6 Try.f20 [(6, ⟨[.var 8 (.o .bool), .var 9 (.d (.int .i64))], [], (some (0, [.var 8 (.o .bool)]))⟩), (9, ⟨[.cel 8 [] .bool], [], none⟩), (11, ⟨[.var 10 (.d .bool), .var 11 (.d (.int .i64)), .cel 8 [] .bool], [], (some (4, [.var 10 (.d .bool), .cel 8 [] .bool]))⟩), (14, ⟨[.var 10 (.d .bool), .var 12 (.d (.int .i64)), .cel 8 [] .bool], [], (some (6, [.var 10 (.d .bool), .cel 8 [] .bool]))⟩)] (.pair (.slice T_api_Type) (.pair (.int .i64) (.int .i64))) .bool x = ref24_Sub k x := by kernel_rfl
theorem ref24_Sub_spec (k : Nat) : SpecOk Try.prog GG 20 ⟨(.pair (.slice T_api_Type) (.pair (.int .i64) (.int .i64))), .bool, ref24_Sub k⟩ :=
  fn_spec (envOk (E := EN k [(18, ⟨(.slice T_api_Type), .bool, ref24_May k⟩), (75, ⟨(.pair (.slice T_api_Type) (.pair (.slice .bool) (.pair (.int .i64) (.int .i64)))), .bool, ref24_rule k⟩)]) tabOk (.cons (ref24_May_spec k) f18_at f18_ok <| .cons (ref24_rule_spec k) f75_at f75_ok <| .nil) codesOk mixedOk (fun _ _ _ _ => trivial) (hmp := mapsOk) (hdm := dmapsOk)) f20_at (fun x => (ref24_Sub_eq k x).symm)
noncomputable def ref24_Equal : (k : Nat) → (Ty.D (.pair (.slice T_api_Type) (.pair (.int .i64) (.int .i64)))) → Option (Ty.D .bool) := fun (k : Nat) (x : (T_api_Type.slice.pair ((Ty.int IntKind.i64).pair (Ty.int IntKind.i64))).D) => P.bind (ref24_Sub k (x.fst, x.snd.fst, x.snd.snd)) fun (r : Bool) => P.cond r (P.bind (ref24_Sub k (x.fst, x.snd.snd, x.snd.fst)) fun (r : Bool) => some r) (some false)
theorem ref24_Equal_eq (k : Nat) (x : (Ty.D (.pair (.slice T_api_Type) (.pair (.int .i64) (.int .i64))))) : evFn (EN k [(20, ⟨(.pair (.slice T_api_Type) (.pair (.int .i64) (.int .i64))), .bool, ref24_Sub k⟩)]) 6 Try.f22 [] (.pair (.slice T_api_Type) (.pair (.int .i64) (.int .i64))) .bool x = ref24_Equal k x := by kernel_rfl
theorem ref24_Equal_spec (k : Nat) : SpecOk Try.prog GG 22 ⟨(.pair (.slice T_api_Type) (.pair (.int .i64) (.int .i64))), .bool, ref24_Equal k⟩ :=
  fn_spec (envOk (E := EN k [(20, ⟨(.pair (.slice T_api_Type) (.pair (.int .i64) (.int .i64))), .bool, ref24_Sub k⟩)]) tabOk (.cons (ref24_Sub_spec k) f20_at f20_ok <| .nil) codesOk mixedOk (fun _ _ _ _ => trivial) (hmp := mapsOk) (hdm := dmapsOk)) f22_at (fun x => (ref24_Equal_eq k x).symm)
noncomputable def law24_TypesTells : (k : Nat) → (Ty.D (.pair (.slice T_api_Type) (.pair (.int .i64) (.int .i64)))) → Option (Ty.D .bool) := fun (k : Nat) (x : (T_api_Type.slice.pair ((Ty.int IntKind.i64).pair (Ty.int IntKind.i64))).D) => P.bind (ref24_Small k x.fst) fun (r : Bool) => P.cond (P.not r) (P.bind (law24_fixed k PUnit.unit) fun (r : Bool) => some r) (P.bind (law24_fixed k PUnit.unit) fun (r : Bool) => P.cond r (P.bind (types_May k x.fst) fun (r : Bool) => P.bind (ref24_May k x.fst) fun (r_1 : Bool) => P.cond (P.beq r r_1) (P.bind (types_Sub k (x.fst, x.snd.fst, x.snd.snd)) fun (r : Bool) => P.bind (ref24_Sub k (x.fst, x.snd.fst, x.snd.snd)) fun (r_2 : Bool) => P.cond (P.beq r r_2) (P.bind (types_Equal k (x.fst, x.snd.fst, x.snd.snd)) fun (r : Bool) => P.bind (ref24_Equal k (x.fst, x.snd.fst, x.snd.snd)) fun (r_3 : Bool) => some (P.beq r r_3)) (some false)) (some false)) (some false))
theorem law24_TypesTells_eq (k : Nat) (x : (Ty.D (.pair (.slice T_api_Type) (.pair (.int .i64) (.int .i64))))) : evFn (EN k [(15, ⟨(.slice T_api_Type), .bool, ref24_Small k⟩), (16, ⟨.unit, .bool, law24_fixed k⟩), (17, ⟨(.slice T_api_Type), .bool, types_May k⟩), (18, ⟨(.slice T_api_Type), .bool, ref24_May k⟩), (19, ⟨(.pair (.slice T_api_Type) (.pair (.int .i64) (.int .i64))), .bool, types_Sub k⟩), (20, ⟨(.pair (.slice T_api_Type) (.pair (.int .i64) (.int .i64))), .bool, ref24_Sub k⟩), (21, ⟨(.pair (.slice T_api_Type) (.pair (.int .i64) (.int .i64))), .bool, types_Equal k⟩), (22, ⟨(.pair (.slice T_api_Type) (.pair (.int .i64) (.int .i64))), .bool, ref24_Equal k⟩)]) 6 Try.f3 [] (.pair (.slice T_api_Type) (.pair (.int .i64) (.int .i64))) .bool x = law24_TypesTells k x := by kernel_rfl
theorem law24_TypesTells_spec (k : Nat) : SpecOk Try.prog GG 3 ⟨(.pair (.slice T_api_Type) (.pair (.int .i64) (.int .i64))), .bool, law24_TypesTells k⟩ :=
  fn_spec (envOk (E := EN k [(15, ⟨(.slice T_api_Type), .bool, ref24_Small k⟩), (16, ⟨.unit, .bool, law24_fixed k⟩), (17, ⟨(.slice T_api_Type), .bool, types_May k⟩), (18, ⟨(.slice T_api_Type), .bool, ref24_May k⟩), (19, ⟨(.pair (.slice T_api_Type) (.pair (.int .i64) (.int .i64))), .bool, types_Sub k⟩), (20, ⟨(.pair (.slice T_api_Type) (.pair (.int .i64) (.int .i64))), .bool, ref24_Sub k⟩), (21, ⟨(.pair (.slice T_api_Type) (.pair (.int .i64) (.int .i64))), .bool, types_Equal k⟩), (22, ⟨(.pair (.slice T_api_Type) (.pair (.int .i64) (.int .i64))), .bool, ref24_Equal k⟩)]) tabOk (.cons (ref24_Small_spec k) f15_at f15_ok <| .cons (law24_fixed_spec k) f16_at f16_ok <| .cons (types_May_spec k) f17_at f17_ok <| .cons (ref24_May_spec k) f18_at f18_ok <| .cons (types_Sub_spec k) f19_at f19_ok <| .cons (ref24_Sub_spec k) f20_at f20_ok <| .cons (types_Equal_spec k) f21_at f21_ok <| .cons (ref24_Equal_spec k) f22_at f22_ok <| .nil) codesOk mixedOk (fun _ _ _ _ => trivial) (hmp := mapsOk) (hdm := dmapsOk)) f3_at (fun x => (law24_TypesTells_eq k x).symm)
noncomputable def law24_TypesOrder : (k : Nat) → (Ty.D (.pair (.slice T_api_Type) (.st (.pair (.int .i64) (.pair (.int .i64) (.int .i64)))))) → Option (Ty.D .bool) := fun (k : Nat) (x : (T_api_Type.slice.pair ((Ty.int IntKind.i64).pair ((Ty.int IntKind.i64).pair (Ty.int IntKind.i64))).st).D) => P.cond (P.ieq ((0 : Int)) ((0 : Int))) (P.cond (P.ieq ((1 : Int)) ((0 : Int))) (P.cond (P.ieq ((2 : Int)) ((0 : Int))) (P.bind (law24_fixed k PUnit.unit) fun (r : Bool) => P.cond (P.not r) (P.bind (law24_fixed k PUnit.unit) fun (r : Bool) => some r) (P.bind (ref24_Small k x.fst) fun (r : Bool) => P.cond (P.not r) (P.bind (law24_fixed k PUnit.unit) fun (r : Bool) => some r) (P.bind (ref24_May k x.fst) fun (r : Bool) => P.cond (P.not r) (P.bind (law24_fixed k PUnit.unit) fun (r : Bool) => some r) (P.cond (P.ilt x.snd.fst ((0 : Int))) (P.bind (law24_fixed k PUnit.unit) fun (r : Bool) => some r) (P.cond (P.ilt x.snd.fst ((0 : Int))) (P.bind (law24_fixed k PUnit.unit) fun (r : Bool) => some r) (P.cond (P.ilt x.snd.fst ((0 : Int))) (P.bind (law24_fixed k PUnit.unit) fun (r : Bool) => some r) (P.cond (P.ile (P.len x.fst) x.snd.fst) (P.bind (law24_fixed k PUnit.unit) fun (r : Bool) => some r) (P.cond (P.ile (P.len x.fst) x.snd.fst) (P.bind (law24_fixed k PUnit.unit) fun (r : Bool) => some r) (P.cond (P.ile (P.len x.fst) x.snd.fst) (P.bind (law24_fixed k PUnit.unit) fun (r : Bool) => some r) (P.bind (types_Sub k (x.fst, x.snd.fst, x.snd.fst)) fun (r : Bool) => P.cond r (P.bind (types_Sub k (x.fst, x.snd.fst, x.snd.fst)) fun (r : Bool) => P.cond (P.not r) (P.bind (types_Equal k (x.fst, x.snd.fst, x.snd.fst)) fun (r : Bool) => P.bind (types_Equal k (x.fst, x.snd.fst, x.snd.fst)) fun (r_1 : Bool) => some (P.beq r r_1)) (P.bind (types_Sub k (x.fst, x.snd.fst, x.snd.fst)) fun (r : Bool) => P.cond (P.not r) (P.bind (types_Equal k (x.fst, x.snd.fst, x.snd.fst)) fun (r : Bool) => P.bind (types_Equal k (x.fst, x.snd.fst, x.snd.fst)) fun (r_1 : Bool) => some (P.beq r r_1)) (P.bind (types_Sub k (x.fst, x.snd.fst, x.snd.fst)) fun (r : Bool) => P.cond r (P.bind (types_Equal k (x.fst, x.snd.fst, x.snd.fst)) fun (r : Bool) => P.bind (types_Equal k (x.fst, x.snd.fst, x.snd.fst)) fun (r_1 : Bool) => some (P.beq r r_1)) (some false)))) (some false))))))))))) (P.cond (P.ieq ((2 : Int)) ((1 : Int))) (P.bind (law24_fixed k PUnit.unit) fun (r : Bool) => P.cond (P.not r) (P.bind (law24_fixed k PUnit.unit) fun (r : Bool) => some r) (P.bind (ref24_Small k x.fst) fun (r : Bool) => P.cond (P.not r) (P.bind (law24_fixed k PUnit.unit) fun (r : Bool) => some r) (P.bind (ref24_May k x.fst) fun (r : Bool) => P.cond (P.not r) (P.bind (law24_fixed k PUnit.unit) fun (r : Bool) => some r) (P.cond (P.ilt x.snd.fst ((0 : Int))) (P.bind (law24_fixed k PUnit.unit) fun (r : Bool) => some r) (P.cond (P.ilt x.snd.fst ((0 : Int))) (P.bind (law24_fixed k PUnit.unit) fun (r : Bool) => some r) (P.cond (P.ilt x.snd.snd.fst ((0 : Int))) (P.bind (law24_fixed k PUnit.unit) fun (r : Bool) => some r) (P.cond (P.ile (P.len x.fst) x.snd.fst) (P.bind (law24_fixed k PUnit.unit) fun (r : Bool) => some r) (P.cond (P.ile (P.len x.fst) x.snd.fst) (P.bind (law24_fixed k PUnit.unit) fun (r : Bool) => some r) (P.cond (P.ile (P.len x.fst) x.snd.snd.fst) (P.bind (law24_fixed k PUnit.unit) fun (r : Bool) => some r) (P.bind (types_Sub k (x.fst, x.snd.fst, x.snd.fst)) fun (r : Bool) => P.cond r (P.bind (types_Sub k (x.fst, x.snd.fst, x.snd.fst)) fun (r : Bool) => P.cond (P.not r) (P.bind (types_Equal k (x.fst, x.snd.fst, x.snd.fst)) fun (r : Bool) => P.bind (types_Equal k (x.fst, x.snd.fst, x.snd.fst)) fun (r_1 : Bool) => some (P.beq r r_1)) (P.bind (types_Sub k (x.fst, x.snd.fst, x.snd.snd.fst)) fun (r : Bool) => P.cond (P.not r) (P.bind (types_Equal k (x.fst, x.snd.fst, x.snd.fst)) fun (r : Bool) => P.bind (types_Equal k (x.fst, x.snd.fst, x.snd.fst)) fun (r_1 : Bool) => some (P.beq r r_1)) (P.bind (types_Sub k (x.fst, x.snd.fst, x.snd.snd.fst)) fun (r : Bool) => P.cond r (P.bind (types_Equal k (x.fst, x.snd.fst, x.snd.fst)) fun (r : Bool) => P.bind (types_Equal k (x.fst, x.snd.fst, x.snd.fst)) fun (r_1 : Bool) => some (P.beq r r_1)) (some false)))) (some false))))))))))) (P.cond (P.ieq ((2 : Int)) ((2 : Int))) (P.bind (law24_fixed k PUnit.unit) fun (r : Bool) => P.cond (P.not r) (P.bind (law24_fixed k PUnit.unit) fun (r : Bool) => some r) (P.bind (ref24_Small k x.fst) fun (r : Bool) => P.cond (P.not r) (P.bind (law24_fixed k PUnit.unit) fun (r : Bool) => some r) (P.bind (ref24_May k x.fst) fun (r : Bool) => P.cond (P.not r) (P.bind (law24_fixed k PUnit.unit) fun (r : Bool) => some r) (P.cond (P.ilt x.snd.fst ((0 : Int))) (P.bind (law24_fixed k PUnit.unit) fun (r : Bool) => some r) (P.cond (P.ilt x.snd.fst ((0 : Int))) (P.bind (law24_fixed k PUnit.unit) fun (r : Bool) => some r) (P.cond (P.ilt x.snd.snd.snd ((0 : Int))) (P.bind (law24_fixed k PUnit.unit) fun (r : Bool) => some r) (P.cond (P.ile (P.len x.fst) x.snd.fst) (P.bind (law24_fixed k PUnit.unit) fun (r : Bool) => some r) (P.cond (P.ile (P.len x.fst) x.snd.fst) (P.bind (law24_fixed k PUnit.unit) fun (r : Bool) => some r) (P.cond (P.ile (P.len x.fst) x.snd.snd.snd) (P.bind (law24_fixed k PUnit.unit) fun (r : Bool) => some r) (P.bind (types_Sub k (x.fst, x.snd.fst, x.snd.fst)) fun (r : Bool) => P.cond r (P.bind (types_Sub k (x.fst, x.snd.fst, x.snd.fst)) fun (r : Bool) => P.cond (P.not r) (P.bind (types_Equal k (x.fst, x.snd.fst, x.snd.fst)) fun (r : Bool) => P.bind (types_Equal k (x.fst, x.snd.fst, x.snd.fst)) fun (r_1 : Bool) => some (P.beq r r_1)) (P.bind (types_Sub k (x.fst, x.snd.fst, x.snd.snd.snd)) fun (r : Bool) => P.cond (P.not r) (P.bind (types_Equal k (x.fst, x.snd.fst, x.snd.fst)) fun (r : Bool) => P.bind (types_Equal k (x.fst, x.snd.fst, x.snd.fst)) fun (r_1 : Bool) => some (P.beq r r_1)) (P.bind (types_Sub k (x.fst, x.snd.fst, x.snd.snd.snd)) fun (r : Bool) => P.cond r (P.bind (types_Equal k (x.fst, x.snd.fst, x.snd.fst)) fun (r : Bool) => P.bind (types_Equal k (x.fst, x.snd.fst, x.snd.fst)) fun (r_1 : Bool) => some (P.beq r r_1)) (some false)))) (some false))))))))))) none))) (P.cond (P.ieq ((1 : Int)) ((1 : Int))) (P.cond (P.ieq ((2 : Int)) ((0 : Int))) (P.bind (law24_fixed k PUnit.unit) fun (r : Bool) => P.cond (P.not r) (P.bind (law24_fixed k PUnit.unit) fun (r : Bool) => some r) (P.bind (ref24_Small k x.fst) fun (r : Bool) => P.cond (P.not r) (P.bind (law24_fixed k PUnit.unit) fun (r : Bool) => some r) (P.bind (ref24_May k x.fst) fun (r : Bool) => P.cond (P.not r) (P.bind (law24_fixed k PUnit.unit) fun (r : Bool) => some r) (P.cond (P.ilt x.snd.fst ((0 : Int))) (P.bind (law24_fixed k PUnit.unit) fun (r : Bool) => some r) (P.cond (P.ilt x.snd.snd.fst ((0 : Int))) (P.bind (law24_fixed k PUnit.unit) fun (r : Bool) => some r) (P.cond (P.ilt x.snd.fst ((0 : Int))) (P.bind (law24_fixed k PUnit.unit) fun (r : Bool) => some r) (P.cond (P.ile (P.len x.fst) x.snd.fst) (P.bind (law24_fixed k PUnit.unit) fun (r : Bool) => some r) (P.cond (P.ile (P.len x.fst) x.snd.snd.fst) (P.bind (law24_fixed k PUnit.unit) fun (r : Bool) => some r) (P.cond (P.ile (P.len x.fst) x.snd.fst) (P.bind (law24_fixed k PUnit.unit) fun (r : Bool) => some r) (P.bind (types_Sub k (x.fst, x.snd.fst, x.snd.fst)) fun (r : Bool) => P.cond r (P.bind (types_Sub k (x.fst, x.snd.fst, x.snd.snd.fst)) fun (r : Bool) => P.cond (P.not r) (P.bind (types_Equal k (x.fst, x.snd.fst, x.snd.snd.fst)) fun (r : Bool) => P.bind (types_Equal k (x.fst, x.snd.snd.fst, x.snd.fst)) fun (r_1 : Bool) => some (P.beq r r_1)) (P.bind (types_Sub k (x.fst, x.snd.snd.fst, x.snd.fst)) fun (r : Bool) => P.cond (P.not r) (P.bind (types_Equal k (x.fst, x.snd.fst, x.snd.snd.fst)) fun (r : Bool) => P.bind (types_Equal k (x.fst, x.snd.snd.fst, x.snd.fst)) fun (r_1 : Bool) => some (P.beq r r_1)) (P.bind (types_Sub k (x.fst, x.snd.fst, x.snd.fst)) fun (r : Bool) => P.cond r (P.bind (types_Equal k (x.fst, x.snd.fst, x.snd.snd.fst)) fun (r : Bool) => P.bind (types_Equal k (x.fst, x.snd.snd.fst, x.snd.fst)) fun (r_1 : Bool) => some (P.beq r r_1)) (some false)))) (some false))))))))))) (P.cond (P.ieq ((2 : Int)) ((1 : Int))) (P.bind (law24_fixed k PUnit.unit) fun (r : Bool) => P.cond (P.not r) (P.bind (law24_fixed k PUnit.unit) fun (r : Bool) => some r) (P.bind (ref24_Small k x.fst) fun (r : Bool) => P.cond (P.not r) (P.bind (law24_fixed k PUnit.unit) fun (r : Bool) => some r) (P.bind (ref24_May k x.fst) fun (r : Bool) => P.cond (P.not r) (P.bind (law24_fixed k PUnit.unit) fun (r : Bool) => some r) (P.cond (P.ilt x.snd.fst ((0 : Int))) (P.bind (law24_fixed k PUnit.unit) fun (r : Bool) => some r) (P.cond (P.ilt x.snd.snd.fst ((0 : Int))) (P.bind (law24_fixed k PUnit.unit) fun (r : Bool) => some r) (P.cond (P.ilt x.snd.snd.fst ((0 : Int))) (P.bind (law24_fixed k PUnit.unit) fun (r : Bool) => some r) (P.cond (P.ile (P.len x.fst) x.snd.fst) (P.bind (law24_fixed k PUnit.unit) fun (r : Bool) => some r) (P.cond (P.ile (P.len x.fst) x.snd.snd.fst) (P.bind (law24_fixed k PUnit.unit) fun (r : Bool) => some r) (P.cond (P.ile (P.len x.fst) x.snd.snd.fst) (P.bind (law24_fixed k PUnit.unit) fun (r : Bool) => some r) (P.bind (types_Sub k (x.fst, x.snd.fst, x.snd.fst)) fun (r : Bool) => P.cond r (P.bind (types_Sub k (x.fst, x.snd.fst, x.snd.snd.fst)) fun (r : Bool) => P.cond (P.not r) (P.bind (types_Equal k (x.fst, x.snd.fst, x.snd.snd.fst)) fun (r : Bool) => P.bind (types_Equal k (x.fst, x.snd.snd.fst, x.snd.fst)) fun (r_1 : Bool) => some (P.beq r r_1)) (P.bind (types_Sub k (x.fst, x.snd.snd.fst, x.snd.snd.fst)) fun (r : Bool) => P.cond (P.not r) (P.bind (types_Equal k (x.fst, x.snd.fst, x.snd.snd.fst)) fun (r : Bool) => P.bind (types_Equal k (x.fst, x.snd.snd.fst, x.snd.fst)) fun (r_1 : Bool) => some (P.beq r r_1)) (P.bind (types_Sub k (x.fst, x.snd.fst, x.snd.snd.fst)) fun (r : Bool) => P.cond r (P.bind (types_Equal k (x.fst, x.snd.fst, x.snd.snd.fst)) fun (r : Bool) => P.bind (types_Equal k (x.fst, x.snd.snd.fst, x.snd.fst)) fun (r_1 : Bool) => some (P.beq r r_1)) (some false)))) (some false))))))))))) (P.cond (P.ieq ((2 : Int)) ((2 : Int))) (P.bind (law24_fixed k PUnit.unit) fun (r : Bool) => P.cond (P.not r) (P.bind (law24_fixed k PUnit.unit) fun (r : Bool) => some r) (P.bind (ref24_Small k x.fst) fun (r : Bool) => P.cond (P.not r) (P.bind (law24_fixed k PUnit.unit) fun (r : Bool) => some r) (P.bind (ref24_May k x.fst) fun (r : Bool) => P.cond (P.not r) (P.bind (law24_fixed k PUnit.unit) fun (r : Bool) => some r) (P.cond (P.ilt x.snd.fst ((0 : Int))) (P.bind (law24_fixed k PUnit.unit) fun (r : Bool) => some r) (P.cond (P.ilt x.snd.snd.fst ((0 : Int))) (P.bind (law24_fixed k PUnit.unit) fun (r : Bool) => some r) (P.cond (P.ilt x.snd.snd.snd ((0 : Int))) (P.bind (law24_fixed k PUnit.unit) fun (r : Bool) => some r) (P.cond (P.ile (P.len x.fst) x.snd.fst) (P.bind (law24_fixed k PUnit.unit) fun (r : Bool) => some r) (P.cond (P.ile (P.len x.fst) x.snd.snd.fst) (P.bind (law24_fixed k PUnit.unit) fun (r : Bool) => some r) (P.cond (P.ile (P.len x.fst) x.snd.snd.snd) (P.bind (law24_fixed k PUnit.unit) fun (r : Bool) => some r) (P.bind (types_Sub k (x.fst, x.snd.fst, x.snd.fst)) fun (r : Bool) => P.cond r (P.bind (types_Sub k (x.fst, x.snd.fst, x.snd.snd.fst)) fun (r : Bool) => P.cond (P.not r) (P.bind (types_Equal k (x.fst, x.snd.fst, x.snd.snd.fst)) fun (r : Bool) => P.bind (types_Equal k (x.fst, x.snd.snd.fst, x.snd.fst)) fun (r_1 : Bool) => some (P.beq r r_1)) (P.bind (types_Sub k (x.fst, x.snd.snd.fst, x.snd.snd.snd)) fun (r : Bool) => P.cond (P.not r) (P.bind (types_Equal k (x.fst, x.snd.fst, x.snd.snd.fst)) fun (r : Bool) => P.bind (types_Equal k (x.fst, x.snd.snd.fst, x.snd.fst)) fun (r_1 : Bool) => some (P.beq r r_1)) (P.bind (types_Sub k (x.fst, x.snd.fst, x.snd.snd.snd)) fun (r : Bool) => P.cond r (P.bind (types_Equal k (x.fst, x.snd.fst, x.snd.snd.fst)) fun (r : Bool) => P.bind (types_Equal k (x.fst, x.snd.snd.fst, x.snd.fst)) fun (r_1 : Bool) => some (P.beq r r_1)) (some false)))) (some false))))))))))) none))) (P.cond (P.ieq ((1 : Int)) ((2 : Int))) (P.cond (P.ieq ((2 : Int)) ((0 : Int))) (P.bind (law24_fixed k PUnit.unit) fun (r : Bool) => P.cond (P.not r) (P.bind (law24_fixed k PUnit.unit) fun (r : Bool) => some r) (P.bind (ref24_Small k x.fst) fun (r : Bool) => P.cond (P.not r) (P.bind (law24_fixed k PUnit.unit) fun (r : Bool) => some r) (P.bind (ref24_May k x.fst) fun (r : Bool) => P.cond (P.not r) (P.bind (law24_fixed k PUnit.unit) fun (r : Bool) => some r) (P.cond (P.ilt x.snd.fst ((0 : Int))) (P.bind (law24_fixed k PUnit.unit) fun (r : Bool) => some r) (P.cond (P.ilt x.snd.snd.snd ((0 : Int))) (P.bind (law24_fixed k PUnit.unit) fun (r : Bool) => some r) (P.cond (P.ilt x.snd.fst ((0 : Int))) (P.bind (law24_fixed k PUnit.unit) fun (r : Bool) => some r) (P.cond (P.ile (P.len x.fst) x.snd.fst) (P.bind (law24_fixed k PUnit.unit) fun (r : Bool) => some r) (P.cond (P.ile (P.len x.fst) x.snd.snd.snd) (P.bind (law24_fixed k PUnit.unit) fun (r : Bool) => some r) (P.cond (P.ile (P.len x.fst) x.snd.fst) (P.bind (law24_fixed k PUnit.unit) fun (r : Bool) => some r) (P.bind (types_Sub k (x.fst, x.snd.fst, x.snd.fst)) fun (r : Bool) => P.cond r (P.bind (types_Sub k (x.fst, x.snd.fst, x.snd.snd.snd)) fun (r : Bool) => P.cond (P.not r) (P.bind (types_Equal k (x.fst, x.snd.fst, x.snd.snd.snd)) fun (r : Bool) => P.bind (types_Equal k (x.fst, x.snd.snd.snd, x.snd.fst)) fun (r_1 : Bool) => some (P.beq r r_1)) (P.bind (types_Sub k (x.fst, x.snd.snd.snd, x.snd.fst)) fun (r : Bool) => P.cond (P.not r) (P.bind (types_Equal k (x.fst, x.snd.fst, x.snd.snd.snd)) fun (r : Bool) => P.bind (types_Equal k (x.fst, x.snd.snd.snd, x.snd.fst)) fun (r_1 : Bool) => some (P.beq r r_1)) (P.bind (types_Sub k (x.fst, x.snd.fst, x.snd.fst)) fun (r : Bool) => P.cond r (P.bind (types_Equal k (x.fst, x.snd.fst, x.snd.snd.snd)) fun (r : Bool) => P.bind (types_Equal k (x.fst, x.snd.snd.snd, x.snd.fst)) fun (r_1 : Bool) => some (P.beq r r_1)) (some false)))) (some false))))))))))) (P.cond (P.ieq ((2 : Int)) ((1 : Int))) (P.bind (law24_fixed k PUnit.unit) fun (r : Bool) => P.cond (P.not r) (P.bind (law24_fixed k PUnit.unit) fun (r : Bool) => some r) (P.bind (ref24_Small k x.fst) fun (r : Bool) => P.cond (P.not r) (P.bind (law24_fixed k PUnit.unit) fun (r : Bool) => some r) (P.bind (ref24_May k x.fst) fun (r : Bool) => P.cond (P.not r) (P.bind (law24_fixed k PUnit.unit) fun (r : Bool) => some r) (P.cond (P.ilt x.snd.fst ((0 : Int))) (P.bind (law24_fixed k PUnit.unit) fun (r : Bool) => some r) (P.cond (P.ilt x.snd.snd.snd ((0 : Int))) (P.bind (law24_fixed k PUnit.unit) fun (r : Bool) => some r) (P.cond (P.ilt x.snd.snd.fst ((0 : Int))) (P.bind (law24_fixed k PUnit.unit) fun (r : Bool) => some r) (P.cond (P.ile (P.len x.fst) x.snd.fst) (P.bind (law24_fixed k PUnit.unit) fun (r : Bool) => some r) (P.cond (P.ile (P.len x.fst) x.snd.snd.snd) (P.bind (law24_fixed k PUnit.unit) fun (r : Bool) => some r) (P.cond (P.ile (P.len x.fst) x.snd.snd.fst) (P.bind (law24_fixed k PUnit.unit) fun (r : Bool) => some r) (P.bind (types_Sub k (x.fst, x.snd.fst, x.snd.fst)) fun (r : Bool) => P.cond r (P.bind (types_Sub k (x.fst, x.snd.fst, x.snd.snd.snd)) fun (r : Bool) => P.cond (P.not r) (P.bind (types_Equal k (x.fst, x.snd.fst, x.snd.snd.snd)) fun (r : Bool) => P.bind (types_Equal k (x.fst, x.snd.snd.snd, x.snd.fst)) fun (r_1 : Bool) => some (P.beq r r_1)) (P.bind (types_Sub k (x.fst, x.snd.snd.snd, x.snd.snd.fst)) fun (r : Bool) => P.cond (P.not r) (P.bind (types_Equal k (x.fst, x.snd.fst, x.snd.snd.snd)) fun (r : Bool) => P.bind (types_Equal k (x.fst, x.snd.snd.snd, x.snd.fst)) fun (r_1 : Bool) => some (P.beq r r_1)) (P.bind (types_Sub k (x.fst, x.snd.fst, x.snd.snd.fst)) fun (r : Bool) => P.cond r (P.bind (types_Equal k (x.fst, x.snd.fst, x.snd.snd.snd)) fun (r : Bool) => P.bind (types_Equal k (x.fst, x.snd.snd.snd, x.snd.fst)) fun (r_1 : Bool) => some (P.beq r r_1)) (some false)))) (some false))))))))))) (P.cond (P.ieq ((2 : Int)) ((2 : Int))) (P.bind (law24_fixed k PUnit.unit) fun (r : Bool) => P.cond (P.not r) (P.bind (law24_fixed k PUnit.unit) fun (r : Bool) => some r) (P.bind (ref24_Small k x.fst) fun (r : Bool) => P.cond (P.not r) (P.bind (law24_fixed k PUnit.unit) fun (r : Bool) => some r) (P.bind (ref24_May k x.fst) fun (r : Bool) => P.cond (P.not r) (P.bind (law24_fixed k PUnit.unit) fun (r : Bool) => some r) (P.cond (P.ilt x.snd.fst ((0 : Int))) (P.bind (law24_fixed k PUnit.unit) fun (r : Bool) => some r) (P.cond (P.ilt x.snd.snd.snd ((0 : Int))) (P.bind (law24_fixed k PUnit.unit) fun (r : Bool) => some r) (P.cond (P.ilt x.snd.snd.snd ((0 : Int))) (P.bind (law24_fixed k PUnit.unit) fun (r : Bool) => some r) (P.cond (P.ile (P.len x.fst) x.snd.fst) (P.bind (law24_fixed k PUnit.unit) fun (r : Bool) => some r) (P.cond (P.ile (P.len x.fst) x.snd.snd.snd) (P.bind (law24_fixed k PUnit.unit) fun (r : Bool) => some r) (P.cond (P.ile (P.len x.fst) x.snd.snd.snd) (P.bind (law24_fixed k PUnit.unit) fun (r : Bool) => some r) (P.bind (types_Sub k (x.fst, x.snd.fst, x.snd.fst)) fun (r : Bool) => P.cond r (P.bind (types_Sub k (x.fst, x.snd.fst, x.snd.snd.snd)) fun (r : Bool) => P.cond (P.not r) (P.bind (types_Equal k (x.fst, x.snd.fst, x.snd.snd.snd)) fun (r : Bool) => P.bind (types_Equal k (x.fst, x.snd.snd.snd, x.snd.fst)) fun (r_1 : Bool) => some (P.beq r r_1)) (P.bind (types_Sub k (x.fst, x.snd.snd.snd, x.snd.snd.snd)) fun (r : Bool) => P.cond (P.not r) (P.bind (types_Equal k (x.fst, x.snd.fst, x.snd.snd.snd)) fun (r : Bool) => P.bind (types_Equal k (x.fst, x.snd.snd.snd, x.snd.fst)) fun (r_1 : Bool) => some (P.beq r r_1)) (P.bind (types_Sub k (x.fst, x.snd.fst, x.snd.snd.snd)) fun (r : Bool) => P.cond r (P.bind (types_Equal k (x.fst, x.snd.fst, x.snd.snd.snd)) fun (r : Bool) => P.bind (types_Equal k (x.fst, x.snd.snd.snd, x.snd.fst)) fun (r_1 : Bool) => some (P.beq r r_1)) (some false)))) (some false))))))))))) none))) none))) (P.cond (P.ieq ((0 : Int)) ((1 : Int))) (P.cond (P.ieq ((1 : Int)) ((0 : Int))) (P.cond (P.ieq ((2 : Int)) ((0 : Int))) (P.bind (law24_fixed k PUnit.unit) fun (r : Bool) => P.cond (P.not r) (P.bind (law24_fixed k PUnit.unit) fun (r : Bool) => some r) (P.bind (ref24_Small k x.fst) fun (r : Bool) => P.cond (P.not r) (P.bind (law24_fixed k PUnit.unit) fun (r : Bool) => some r) (P.bind (ref24_May k x.fst) fun (r : Bool) => P.cond (P.not r) (P.bind (law24_fixed k PUnit.unit) fun (r : Bool) => some r) (P.cond (P.ilt x.snd.snd.fst ((0 : Int))) (P.bind (law24_fixed k PUnit.unit) fun (r : Bool) => some r) (P.cond (P.ilt x.snd.fst ((0 : Int))) (P.bind (law24_fixed k PUnit.unit) fun (r : Bool) => some r) (P.cond (P.ilt x.snd.fst ((0 : Int))) (P.bind (law24_fixed k PUnit.unit) fun (r : Bool) => some r) (P.cond (P.ile (P.len x.fst) x.snd.snd.fst) (P.bind (law24_fixed k PUnit.unit) fun (r : Bool) => some r) (P.cond (P.ile (P.len x.fst) x.snd.fst) (P.bind (law24_fixed k PUnit.unit) fun (r : Bool) => some r) (P.cond (P.ile (P.len x.fst) x.snd.fst) (P.bind (law24_fixed k PUnit.unit) fun (r : Bool) => some r) (P.bind (types_Sub k (x.fst, x.snd.snd.fst, x.snd.snd.fst)) fun (r : Bool) => P.cond r (P.bind (types_Sub k (x.fst, x.snd.snd.fst, x.snd.fst)) fun (r : Bool) => P.cond (P.not r) (P.bind (types_Equal k (x.fst, x.snd.snd.fst, x.snd.fst)) fun (r : Bool) => P.bind (types_Equal k (x.fst, x.snd.fst, x.snd.snd.fst)) fun (r_1 : Bool) => some (P.beq r r_1)) (P.bind (types_Sub k (x.fst, x.snd.fst, x.snd.fst)) fun (r : Bool) => P.cond (P.not r) (P.bind (types_Equal k (x.fst, x.snd.snd.fst, x.snd.fst)) fun (r : Bool) => P.bind (types_Equal k (x.fst, x.snd.fst, x.snd.snd.fst)) fun (r_1 : Bool) => some (P.beq r r_1)) (P.bind (types_Sub k (x.fst, x.snd.snd.fst, x.snd.fst)) fun (r : Bool) => P.cond r (P.bind (types_Equal k (x.fst, x.snd.snd.fst, x.snd.fst)) fun (r : Bool) => P.bind (types_Equal k (x.fst, x.snd.fst, x.snd.snd.fst)) fun (r_1 : Bool) => some (P.beq r r_1)) (some false)))) (some false))))))))))) (P.cond (P.ieq ((2 : Int)) ((1 : Int))) (P.bind (law24_fixed k PUnit.unit) fun (r : Bool) => P.cond (P.not r) (P.bind (law24_fixed k PUnit.unit) fun (r : Bool) => some r) (P.bind (ref24_Small k x.fst) fun (r : Bool) => P.cond (P.not r) (P.bind (law24_fixed k PUnit.unit) fun (r : Bool) => some r) (P.bind (ref24_May k x.fst) fun (r : Bool) => P.cond (P.not r) (P.bind (law24_fixed k PUnit.unit) fun (r : Bool) => some r) (P.cond (P.ilt x.snd.snd.fst ((0 : Int))) (P.bind (law24_fixed k PUnit.unit) fun (r : Bool) => some r) (P.cond (P.ilt x.snd.fst ((0 : Int))) (P.bind (law24_fixed k PUnit.unit) fun (r : Bool) => some r) (P.cond (P.ilt x.snd.snd.fst ((0 : Int))) (P.bind (law24_fixed k PUnit.unit) fun (r : Bool) => some r) (P.cond (P.ile (P.len x.fst) x.snd.snd.fst) (P.bind (law24_fixed k PUnit.unit) fun (r : Bool) => some r) (P.cond (P.ile (P.len x.fst) x.snd.fst) (P.bind (law24_fixed k PUnit.unit) fun (r : Bool) => some r) (P.cond (P.ile (P.len x.fst) x.snd.snd.fst) (P.bind (law24_fixed k PUnit.unit) fun (r : Bool) => some r) (P.bind (types_Sub k (x.fst, x.snd.snd.fst, x.snd.snd.fst)) fun (r : Bool) => P.cond r (P.bind (types_Sub k (x.fst, x.snd.snd.fst, x.snd.fst)) fun (r : Bool) => P.cond (P.not r) (P.bind (types_Equal k (x.fst, x.snd.snd.fst, x.snd.fst)) fun (r : Bool) => P.bind (types_Equal k (x.fst, x.snd.fst, x.snd.snd.fst)) fun (r_1 : Bool) => some (P.beq r r_1)) (P.bind (types_Sub k (x.fst, x.snd.fst, x.snd.snd.fst)) fun (r : Bool) => P.cond (P.not r) (P.bind (types_Equal k (x.fst, x.snd.snd.fst, x.snd.fst)) fun (r : Bool) => P.bind (types_Equal k (x.fst, x.snd.fst, x.snd.snd.fst)) fun (r_1 : Bool) => some (P.beq r r_1)) (P.bind (types_Sub k (x.fst, x.snd.snd.fst, x.snd.snd.fst)) fun (r : Bool) => P.cond r (P.bind (types_Equal k (x.fst, x.snd.snd.fst, x.snd.fst)) fun (r : Bool) => P.bind (types_Equal k (x.fst, x.snd.fst, x.snd.snd.fst)) fun (r_1 : Bool) => some (P.beq r r_1)) (some false)))) (some false))))))))))) (P.cond (P.ieq ((2 : Int)) ((2 : Int))) (P.bind (law24_fixed k PUnit.unit) fun (r : Bool) => P.cond (P.not r) (P.bind (law24_fixed k PUnit.unit) fun (r : Bool) => some r) (P.bind (ref24_Small k x.fst) fun (r : Bool) => P.cond (P.not r) (P.bind (law24_fixed k PUnit.unit) fun (r : Bool) => some r) (P.bind (ref24_May k x.fst) fun (r : Bool) => P.cond (P.not r) (P.bind (law24_fixed k PUnit.unit) fun (r : Bool) => some r) (P.cond (P.ilt x.snd.snd.fst ((0 : Int))) (P.bind (law24_fixed k PUnit.unit) fun (r : Bool) => some r) (P.cond (P.ilt x.snd.fst ((0 : Int))) (P.bind (law24_fixed k PUnit.unit) fun (r : Bool) => some r) (P.cond (P.ilt x.snd.snd.snd ((0 : Int))) (P.bind (law24_fixed k PUnit.unit) fun (r : Bool) => some r) (P.cond (P.ile (P.len x.fst) x.snd.snd.fst) (P.bind (law24_fixed k PUnit.unit) fun (r : Bool) => some r) (P.cond (P.ile (P.len x.fst) x.snd.fst) (P.bind (law24_fixed k PUnit.unit) fun (r : Bool) => some r) (P.cond (P.ile (P.len x.fst) x.snd.snd.snd) (P.bind (law24_fixed k PUnit.unit) fun (r : Bool) => some r) (P.bind (types_Sub k (x.fst, x.snd.snd.fst, x.snd.snd.fst)) fun (r : Bool) => P.cond r (P.bind (types_Sub k (x.fst, x.snd.snd.fst, x.snd.fst)) fun (r : Bool) => P.cond (P.not r) (P.bind (types_Equal k (x.fst, x.snd.snd.fst, x.snd.fst)) fun (r : Bool) => P.bind (types_Equal k (x.fst, x.snd.fst, x.snd.snd.fst)) fun (r_1 : Bool) => some (P.beq r r_1)) (P.bind (types_Sub k (x.fst, x.snd.fst, x.snd.snd.snd)) fun (r : Bool) => P.cond (P.not r) (P.bind (types_Equal k (x.fst, x.snd.snd.fst, x.snd.fst)) fun (r : Bool) => P.bind (types_Equal k (x.fst, x.snd.fst, x.snd.snd.fst)) fun (r_1 : Bool) => some (P.beq r r_1)) (P.bind (types_Sub k (x.fst, x.snd.snd.fst, x.snd.snd.snd)) fun (r : Bool) => P.cond r (P.bind (types_Equal k (x.fst, x.snd.snd.fst, x.snd.fst)) fun (r : Bool) => P.bind (types_Equal k (x.fst, x.snd.fst, x.snd.snd.fst)) fun (r_1 : Bool) => some (P.beq r r_1)) (some false)))) (some false))))))))))) none))) (P.cond (P.ieq ((1 : Int)) ((1 : Int))) (P.cond (P.ieq ((2 : Int)) ((0 : Int))) (P.bind (law24_fixed k PUnit.unit) fun (r : Bool) => P.cond (P.not r) (P.bind (law24_fixed k PUnit.unit) fun (r : Bool) => some r) (P.bind (ref24_Small k x.fst) fun (r : Bool) => P.cond (P.not r) (P.bind (law24_fixed k PUnit.unit) fun (r : Bool) => some r) (P.bind (ref24_May k x.fst) fun (r : Bool) => P.cond (P.not r) (P.bind (law24_fixed k PUnit.unit) fun (r : Bool) => some r) (P.cond (P.ilt x.snd.snd.fst ((0 : Int))) (P.bind (law24_fixed k PUnit.unit) fun (r : Bool) => some r) (P.cond (P.ilt x.snd.snd.fst ((0 : Int))) (P.bind (law24_fixed k PUnit.unit) fun (r : Bool) => some r) (P.cond (P.ilt x.snd.fst ((0 : Int))) (P.bind (law24_fixed k PUnit.unit) fun (r : Bool) => some r) (P.cond (P.ile (P.len x.fst) x.snd.snd.fst) (P.bind (law24_fixed k PUnit.unit) fun (r : Bool) => some r) (P.cond (P.ile (P.len x.fst) x.snd.snd.fst) (P.bind (law24_fixed k PUnit.unit) fun (r : Bool) => some r) (P.cond (P.ile (P.len x.fst) x.snd.fst) (P.bind (law24_fixed k PUnit.unit) fun (r : Bool) => some r) (P.bind (types_Sub k (x.fst, x.snd.snd.fst, x.snd.snd.fst)) fun (r : Bool) => P.cond r (P.bind (types_Sub k (x.fst, x.snd.snd.fst, x.snd.snd.fst)) fun (r : Bool) => P.cond (P.not r) (P.bind (types_Equal k (x.fst, x.snd.snd.fst, x.snd.snd.fst)) fun (r : Bool) => P.bind (types_Equal k (x.fst, x.snd.snd.fst, x.snd.snd.fst)) fun (r_1 : Bool) => some (P.beq r r_1)) (P.bind (types_Sub k (x.fst, x.snd.snd.fst, x.snd.fst)) fun (r : Bool) => P.cond (P.not r) (P.bind (types_Equal k (x.fst, x.snd.snd.fst, x.snd.snd.fst)) fun (r : Bool) => P.bind (types_Equal k (x.fst, x.snd.snd.fst, x.snd.snd.fst)) fun (r_1 : Bool) => some (P.beq r r_1)) (P.bind (types_Sub k (x.fst, x.snd.snd.fst, x.snd.fst)) fun (r : Bool) => P.cond r (P.bind (types_Equal k (x.fst, x.snd.snd.fst, x.snd.snd.fst)) fun (r : Bool) => P.bind (types_Equal k (x.fst, x.snd.snd.fst, x.snd.snd.fst)) fun (r_1 : Bool) => some (P.beq r r_1)) (some false)))) (some false))))))))))) (P.cond (P.ieq ((2 : Int)) ((1 : Int))) (P.bind (law24_fixed k PUnit.unit) fun (r : Bool) => P.cond (P.not r) (P.bind (law24_fixed k PUnit.unit) fun (r : Bool) => some r) (P.bind (ref24_Small k x.fst) fun (r : Bool) => P.cond (P.not r) (P.bind (law24_fixed k PUnit.unit) fun (r : Bool) => some r) (P.bind (ref24_May k x.fst) fun (r : Bool) => P.cond (P.not r) (P.bind (law24_fixed k PUnit.unit) fun (r : Bool) => some r) (P.cond (P.ilt x.snd.snd.fst ((0 : Int))) (P.bind (law24_fixed k PUnit.unit) fun (r : Bool) => some r) (P.cond (P.ilt x.snd.snd.fst ((0 : Int))) (P.bind (law24_fixed k PUnit.unit) fun (r : Bool) => some r) (P.cond (P.ilt x.snd.snd.fst ((0 : Int))) (P.bind (law24_fixed k PUnit.unit) fun (r : Bool) => some r) (P.cond (P.ile (P.len x.fst) x.snd.snd.fst) (P.bind (law24_fixed k PUnit.unit) fun (r : Bool) => some r) (P.cond (P.ile (P.len x.fst) x.snd.snd.fst) (P.bind (law24_fixed k PUnit.unit) fun (r : Bool) => some r) (P.cond (P.ile (P.len x.fst) x.snd.snd.fst) (P.bind (law24_fixed k PUnit.unit) fun (r : Bool) => some r) (P.bind (types_Sub k (x.fst, x.snd.snd.fst, x.snd.snd.fst)) fun (r : Bool) => P.cond r (P.bind (types_Sub k (x.fst, x.snd.snd.fst, x.snd.snd.fst)) fun (r : Bool) => P.cond (P.not r) (P.bind (types_Equal k (x.fst, x.snd.snd.fst, x.snd.snd.fst)) fun (r : Bool) => P.bind (types_Equal k (x.fst, x.snd.snd.fst, x.snd.snd.fst)) fun (r_1 : Bool) => some (P.beq r r_1)) (P.bind (types_Sub k (x.fst, x.snd.snd.fst, x.snd.snd.fst)) fun (r : Bool) => P.cond (P.not r) (P.bind (types_Equal k (x.fst, x.snd.snd.fst, x.snd.snd.fst)) fun (r : Bool) => P.bind (types_Equal k (x.fst, x.snd.snd.fst, x.snd.snd.fst)) fun (r_1 : Bool) => some (P.beq r r_1)) (P.bind (types_Sub k (x.fst, x.snd.snd.fst, x.snd.snd.fst)) fun (r : Bool) => P.cond r (P.bind (types_Equal k (x.fst, x.snd.snd.fst, x.snd.snd.fst)) fun (r : Bool) => P.bind (types_Equal k (x.fst, x.snd.snd.fst, x.snd.snd.fst)) fun (r_1 : Bool) => some (P.beq r r_1)) (some false)))) (some false))))))))))) (P.cond (P.ieq ((2 : Int)) ((2 : Int))) (P.bind (law24_fixed k PUnit.unit) fun (r : Bool) => P.cond (P.not r) (P.bind (law24_fixed k PUnit.unit) fun (r : Bool) => some r) (P.bind (ref24_Small k x.fst) fun (r : Bool) => P.cond (P.not r) (P.bind (law24_fixed k PUnit.unit) fun (r : Bool) => some r) (P.bind (ref24_May k x.fst) fun (r : Bool) => P.cond (P.not r) (P.bind (law24_fixed k PUnit.unit) fun (r : Bool) => some r) (P.cond (P.ilt x.snd.snd.fst ((0 : Int))) (P.bind (law24_fixed k PUnit.unit) fun (r : Bool) => some r) (P.cond (P.ilt x.snd.snd.fst ((0 : Int))) (P.bind (law24_fixed k PUnit.unit) fun (r : Bool) => some r) (P.cond (P.ilt x.snd.snd.snd ((0 : Int))) (P.bind (law24_fixed k PUnit.unit) fun (r : Bool) => some r) (P.cond (P.ile (P.len x.fst) x.snd.snd.fst) (P.bind (law24_fixed k PUnit.unit) fun (r : Bool) => some r) (P.cond (P.ile (P.len x.fst) x.snd.snd.fst) (P.bind (law24_fixed k PUnit.unit) fun (r : Bool) => some r) (P.cond (P.ile (P.len x.fst) x.snd.snd.snd) (P.bind (law24_fixed k PUnit.unit) fun (r : Bool) => some r) (P.bind (types_Sub k (x.fst, x.snd.snd.fst, x.snd.snd.fst)) fun (r : Bool) => P.cond r (P.bind (types_Sub k (x.fst, x.snd.snd.fst, x.snd.snd.fst)) fun (r : Bool) => P.cond (P.not r) (P.bind (types_Equal k (x.fst, x.snd.snd.fst, x.snd.snd.fst)) fun (r : Bool) => P.bind (types_Equal k (x.fst, x.snd.snd.fst, x.snd.snd.fst)) fun (r_1 : Bool) => some (P.beq r r_1)) (P.bind (types_Sub k (x.fst, x.snd.snd.fst, x.snd.snd.snd)) fun (r : Bool) => P.cond (P.not r) (P.bind (types_Equal k (x.fst, x.snd.snd.fst, x.snd.snd.fst)) fun (r : Bool) => P.bind (types_Equal k (x.fst, x.snd.snd.fst, x.snd.snd.fst)) fun (r_1 : Bool) => some (P.beq r r_1)) (P.bind (types_Sub k (x.fst, x.snd.snd.fst, x.snd.snd.snd)) fun (r : Bool) => P.cond r (P.bind (types_Equal k (x.fst, x.snd.snd.fst, x.snd.snd.fst)) fun (r : Bool) => P.bind (types_Equal k (x.fst, x.snd.snd.fst, x.snd.snd.fst)) fun (r_1 : Bool) => some (P.beq r r_1)) (some false)))) (some false))))))))))) none))) (P.cond (P.ieq ((1 : Int)) ((2 : Int))) (P.cond (P.ieq ((2 : Int)) ((0 : Int))) (P.bind (law24_fixed k PUnit.unit) fun (r : Bool) => P.cond (P.not r) (P.bind (law24_fixed k PUnit.unit) fun (r : Bool) => some r) (P.bind (ref24_Small k x.fst) fun (r : Bool) => P.cond (P.not r) (P.bind (law24_fixed k PUnit.unit) fun (r : Bool) => some r) (P.bind (ref24_May k x.fst) fun (r : Bool) => P.cond (P.not r) (P.bind (law24_fixed k PUnit.unit) fun (r : Bool) => some r) (P.cond (P.ilt x.snd.snd.fst ((0 : Int))) (P.bind (law24_fixed k PUnit.unit) fun (r : Bool) => some r) (P.cond (P.ilt x.snd.snd.snd ((0 : Int))) (P.bind (law24_fixed k PUnit.unit) fun (r : Bool) => some r) (P.cond (P.ilt x.snd.fst ((0 : Int))) (P.bind (law24_fixed k PUnit.unit) fun (r : Bool) => some r) (P.cond (P.ile (P.len x.fst) x.snd.snd.fst) (P.bind (law24_fixed k PUnit.unit) fun (r : Bool) => some r) (P.cond (P.ile (P.len x.fst) x.snd.snd.snd) (P.bind (law24_fixed k PUnit.unit) fun (r : Bool) => some r) (P.cond (P.ile (P.len x.fst) x.snd.fst) (P.bind (law24_fixed k PUnit.unit) fun (r : Bool) => some r) (P.bind (types_Sub k (x.fst, x.snd.snd.fst, x.snd.snd.fst)) fun (r : Bool) => P.cond r (P.bind (types_Sub k (x.fst, x.snd.snd.fst, x.snd.snd.snd)) fun (r : Bool) => P.cond (P.not r) (P.bind (types_Equal k (x.fst, x.snd.snd.fst, x.snd.snd.snd)) fun (r : Bool) => P.bind (types_Equal k (x.fst, x.snd.snd.snd, x.snd.snd.fst)) fun (r_1 : Bool) => some (P.beq r r_1)) (P.bind (types_Sub k (x.fst, x.snd.snd.snd, x.snd.fst)) fun (r : Bool) => P.cond (P.not r) (P.bind (types_Equal k (x.fst, x.snd.snd.fst, x.snd.snd.snd)) fun (r : Bool) => P.bind (types_Equal k (x.fst, x.snd.snd.snd, x.snd.snd.fst)) fun (r_1 : Bool) => some (P.beq r r_1)) (P.bind (types_Sub k (x.fst, x.snd.snd.fst, x.snd.fst)) fun (r : Bool) => P.cond r (P.bind (types_Equal k (x.fst, x.snd.snd.fst, x.snd.snd.snd)) fun (r : Bool) => P.bind (types_Equal k (x.fst, x.snd.snd.snd, x.snd.snd.fst)) fun (r_1 : Bool) => some (P.beq r r_1)) (some false)))) (some false))))))))))) (P.cond (P.ieq ((2 : Int)) ((1 : Int))) (P.bind (law24_fixed k PUnit.unit) fun (r : Bool) => P.cond (P.not r) (P.bind (law24_fixed k PUnit.unit) fun (r : Bool) => some r) (P.bind (ref24_Small k x.fst) fun (r : Bool) => P.cond (P.not r) (P.bind (law24_fixed k PUnit.unit) fun (r : Bool) => some r) (P.bind (ref24_May k x.fst) fun (r : Bool) => P.cond (P.not r) (P.bind (law24_fixed k PUnit.unit) fun (r : Bool) => some r) (P.cond (P.ilt x.snd.snd.fst ((0 : Int))) (P.bind (law24_fixed k PUnit.unit) fun (r : Bool) => some r) (P.cond (P.ilt x.snd.snd.snd ((0 : Int))) (P.bind (law24_fixed k PUnit.unit) fun (r : Bool) => some r) (P.cond (P.ilt x.snd.snd.fst ((0 : Int))) (P.bind (law24_fixed k PUnit.unit) fun (r : Bool) => some r) (P.cond (P.ile (P.len x.fst) x.snd.snd.fst) (P.bind (law24_fixed k PUnit.unit) fun (r : Bool) => some r) (P.cond (P.ile (P.len x.fst) x.snd.snd.snd) (P.bind (law24_fixed k PUnit.unit) fun (r : Bool) => some r) (P.cond (P.ile (P.len x.fst) x.snd.snd.fst) (P.bind (law24_fixed k PUnit.unit) fun (r : Bool) => some r) (P.bind (types_Sub k (x.fst, x.snd.snd.fst, x.snd.snd.fst)) fun (r : Bool) => P.cond r (P.bind (types_Sub k (x.fst, x.snd.snd.fst, x.snd.snd.snd)) fun (r : Bool) => P.cond (P.not r) (P.bind (types_Equal k (x.fst, x.snd.snd.fst, x.snd.snd.snd)) fun (r : Bool) => P.bind (types_Equal k (x.fst, x.snd.snd.snd, x.snd.snd.fst)) fun (r_1 : Bool) => some (P.beq r r_1)) (P.bind (types_Sub k (x.fst, x.snd.snd.snd, x.snd.snd.fst)) fun (r : Bool) => P.cond (P.not r) (P.bind (types_Equal k (x.fst, x.snd.snd.fst, x.snd.snd.snd)) fun (r : Bool) => P.bind (types_Equal k (x.fst, x.snd.snd.snd, x.snd.snd.fst)) fun (r_1 : Bool) => some (P.beq r r_1)) (P.bind (types_Sub k (x.fst, x.snd.snd.fst, x.snd.snd.fst)) fun (r : Bool) => P.cond r (P.bind (types_Equal k (x.fst, x.snd.snd.fst, x.snd.snd.snd)) fun (r : Bool) => P.bind (types_Equal k (x.fst, x.snd.snd.snd, x.snd.snd.fst)) fun (r_1 : Bool) => some (P.beq r r_1)) (some false)))) (some false))))))))))) (P.cond (P.ieq ((2 : Int)) ((2 : Int))) (P.bind (law24_fixed k PUnit.unit) fun (r : Bool) => P.cond (P.not r) (P.bind (law24_fixed k PUnit.unit) fun (r : Bool) => some r) (P.bind (ref24_Small k x.fst) fun (r : Bool) => P.cond (P.not r) (P.bind (law24_fixed k PUnit.unit) fun (r : Bool) => some r) (P.bind (ref24_May k x.fst) fun (r : Bool) => P.cond (P.not r) (P.bind (law24_fixed k PUnit.unit) fun (r : Bool) => some r) (P.cond (P.ilt x.snd.snd.fst ((0 : Int))) (P.bind (law24_fixed k PUnit.unit) fun (r : Bool) => some r) (P.cond (P.ilt x.snd.snd.snd ((0 : Int))) (P.bind (law24_fixed k PUnit.unit) fun (r : Bool) => some r) (P.cond (P.ilt x.snd.snd.snd ((0 : Int))) (P.bind (law24_fixed k PUnit.unit) fun (r : Bool) => some r) (P.cond (P.ile (P.len x.fst) x.snd.snd.fst) (P.bind (law24_fixed k PUnit.unit) fun (r : Bool) => some r) (P.cond (P.ile (P.len x.fst) x.snd.snd.snd) (P.bind (law24_fixed k PUnit.unit) fun (r : Bool) => some r) (P.cond (P.ile (P.len x.fst) x.snd.snd.snd) (P.bind (law24_fixed k PUnit.unit) fun (r : Bool) => some r) (P.bind (types_Sub k (x.fst, x.snd.snd.fst, x.snd.snd.fst)) fun (r : Bool) => P.cond r (P.bind (types_Sub k (x.fst, x.snd.snd.fst, x.snd.snd.snd)) fun (r : Bool) => P.cond (P.not r) (P.bind (types_Equal k (x.fst, x.snd.snd.fst, x.snd.snd.snd)) fun (r : Bool) => P.bind (types_Equal k (x.fst, x.snd.snd.snd, x.snd.snd.fst)) fun (r_1 : Bool) => some (P.beq r r_1)) (P.bind (types_Sub k (x.fst, x.snd.snd.snd, x.snd.snd.snd)) fun (r : Bool) => P.cond (P.not r) (P.bind (types_Equal k (x.fst, x.snd.snd.fst, x.snd.snd.snd)) fun (r : Bool) => P.bind (types_Equal k (x.fst, x.snd.snd.snd, x.snd.snd.fst)) fun (r_1 : Bool) => some (P.beq r r_1)) (P.bind (types_Sub k (x.fst, x.snd.snd.fst, x.snd.snd.snd)) fun (r : Bool) => P.cond r (P.bind (types_Equal k (x.fst, x.snd.snd.fst, x.snd.snd.snd)) fun (r : Bool) => P.bind (types_Equal k (x.fst, x.snd.snd.snd, x.snd.snd.fst)) fun (r_1 : Bool) => some (P.beq r r_1)) (some false)))) (some false))))))))))) none))) none))) (P.cond (P.ieq ((0 : Int)) ((2 : Int))) (P.cond (P.ieq ((1 : Int)) ((0 : Int))) (P.cond (P.ieq ((2 : Int)) ((0 : Int))) (P.bind (law24_fixed k PUnit.unit) fun (r : Bool) => P.cond (P.not r) (P.bind (law24_fixed k PUnit.unit) fun (r : Bool) => some r) (P.bind (ref24_Small k x.fst) fun (r : Bool) => P.cond (P.not r) (P.bind (law24_fixed k PUnit.unit) fun (r : Bool) => some r) (P.bind (ref24_May k x.fst) fun (r : Bool) => P.cond (P.not r) (P.bind (law24_fixed k PUnit.unit) fun (r : Bool) => some r) (P.cond (P.ilt x.snd.snd.snd ((0 : Int))) (P.bind (law24_fixed k PUnit.unit) fun (r : Bool) => some r) (P.cond (P.ilt x.snd.fst ((0 : Int))) (P.bind (law24_fixed k PUnit.unit) fun (r : Bool) => some r) (P.cond (P.ilt x.snd.fst ((0 : Int))) (P.bind (law24_fixed k PUnit.unit) fun (r : Bool) => some r) (P.cond (P.ile (P.len x.fst) x.snd.snd.snd) (P.bind (law24_fixed k PUnit.unit) fun (r : Bool) => some r) (P.cond (P.ile (P.len x.fst) x.snd.fst) (P.bind (law24_fixed k PUnit.unit) fun (r : Bool) => some r) (P.cond (P.ile (P.len x.fst) x.snd.fst) (P.bind (law24_fixed k PUnit.unit) fun (r : Bool) => some r) (P.bind (types_Sub k (x.fst, x.snd.snd.snd, x.snd.snd.snd)) fun (r : Bool) => P.cond r (P.bind (types_Sub k (x.fst, x.snd.snd.snd, x.snd.fst)) fun (r : Bool) => P.cond (P.not r) (P.bind (types_Equal k (x.fst, x.snd.snd.snd, x.snd.fst)) fun (r : Bool) => P.bind (types_Equal k (x.fst, x.snd.fst, x.snd.snd.snd)) fun (r_1 : Bool) => some (P.beq r r_1)) (P.bind (types_Sub k (x.fst, x.snd.fst, x.snd.fst)) fun (r : Bool) => P.cond (P.not r) (P.bind (types_Equal k (x.fst, x.snd.snd.snd, x.snd.fst)) fun (r : Bool) => P.bind (types_Equal k (x.fst, x.snd.fst, x.snd.snd.snd)) fun (r_1 : Bool) => some (P.beq r r_1)) (P.bind (types_Sub k (x.fst, x.snd.snd.snd, x.snd.fst)) fun (r : Bool) => P.cond r (P.bind (types_Equal k (x.fst, x.snd.snd.snd, x.snd.fst)) fun (r : Bool) => P.bind (types_Equal k (x.fst, x.snd.fst, x.snd.snd.snd)) fun (r_1 : Bool) => some (P.beq r r_1)) (some false)))) (some false))))))))))) (P.cond (P.ieq ((2 : Int)) ((1 : Int))) (P.bind (law24_fixed k PUnit.unit) fun (r : Bool) => P.cond (P.not r) (P.bind (law24_fixed k PUnit.unit) fun (r : Bool) => some r) (P.bind (ref24_Small k x.fst) fun (r : Bool) => P.cond (P.not r) (P.bind (law24_fixed k PUnit.unit) fun (r : Bool) => some r) (P.bind (ref24_May k x.fst) fun (r : Bool) => P.cond (P.not r) (P.bind (law24_fixed k PUnit.unit) fun (r : Bool) => some r) (P.cond (P.ilt x.snd.snd.snd ((0 : Int))) (P.bind (law24_fixed k PUnit.unit) fun (r : Bool) => some r) (P.cond (P.ilt x.snd.fst ((0 : Int))) (P.bind (law24_fixed k PUnit.unit) fun (r : Bool) => some r) (P.cond (P.ilt x.snd.snd.fst ((0 : Int))) (P.bind (law24_fixed k PUnit.unit) fun (r : Bool) => some r) (P.cond (P.ile (P.len x.fst) x.snd.snd.snd) (P.bind (law24_fixed k PUnit.unit) fun (r : Bool) => some r) (P.cond (P.ile (P.len x.fst) x.snd.fst) (P.bind (law24_fixed k PUnit.unit) fun (r : Bool) => some r) (P.cond (P.ile (P.len x.fst) x.snd.snd.fst) (P.bind (law24_fixed k PUnit.unit) fun (r : Bool) => some r) (P.bind (types_Sub k (x.fst, x.snd.snd.snd, x.snd.snd.snd)) fun (r : Bool) => P.cond r (P.bind (types_Sub k (x.fst, x.snd.snd.snd, x.snd.fst)) fun (r : Bool) => P.cond (P.not r) (P.bind (types_Equal k (x.fst, x.snd.snd.snd, x.snd.fst)) fun (r : Bool) => P.bind (types_Equal k (x.fst, x.snd.fst, x.snd.snd.snd)) fun (r_1 : Bool) => some (P.beq r r_1)) (P.bind (types_Sub k (x.fst, x.snd.fst, x.snd.snd.fst)) fun (r : Bool) => P.cond (P.not r) (P.bind (types_Equal k (x.fst, x.snd.snd.snd, x.snd.fst)) fun (r : Bool) => P.bind (types_Equal k (x.fst, x.snd.fst, x.snd.snd.snd)) fun (r_1 : Bool) => some (P.beq r r_1)) (P.bind (types_Sub k (x.fst, x.snd.snd.snd, x.snd.snd.fst)) fun (r : Bool) => P.cond r (P.bind (types_Equal k (x.fst, x.snd.snd.snd, x.snd.fst)) fun (r : Bool) => P.bind (types_Equal k (x.fst, x.snd.fst, x.snd.snd.snd)) fun (r_1 : Bool) => some (P.beq r r_1)) (some false)))) (some false))))))))))) (P.cond (P.ieq ((2 : Int)) ((2 : Int))) (P.bind (law24_fixed k PUnit.unit) fun (r : Bool) => P.cond (P.not r) (P.bind (law24_fixed k PUnit.unit) fun (r : Bool) => some r) (P.bind (ref24_Small k x.fst) fun (r : Bool) => P.cond (P.not r) (P.bind (law24_fixed k PUnit.unit) fun (r : Bool) => some r) (P.bind (ref24_May k x.fst) fun (r : Bool) => P.cond (P.not r) (P.bind (law24_fixed k PUnit.unit) fun (r : Bool) => some r) (P.cond (P.ilt x.snd.snd.snd ((0 : Int))) (P.bind (law24_fixed k PUnit.unit) fun (r : Bool) => some r) (P.cond (P.ilt x.snd.fst ((0 : Int))) (P.bind (law24_fixed k PUnit.unit) fun (r : Bool) => some r) (P.cond (P.ilt x.snd.snd.snd ((0 : Int))) (P.bind (law24_fixed k PUnit.unit) fun (r : Bool) => some r) (P.cond (P.ile (P.len x.fst) x.snd.snd.snd) (P.bind (law24_fixed k PUnit.unit) fun (r : Bool) => some r) (P.cond (P.ile (P.len x.fst) x.snd.fst) (P.bind (law24_fixed k PUnit.unit) fun (r : Bool) => some r) (P.cond (P.ile (P.len x.fst) x.snd.snd.snd) (P.bind (law24_fixed k PUnit.unit) fun (r : Bool) => some r) (P.bind (types_Sub k (x.fst, x.snd.snd.snd, x.snd.snd.snd)) fun (r : Bool) => P.cond r (P.bind (types_Sub k (x.fst, x.snd.snd.snd, x.snd.fst)) fun (r : Bool) => P.cond (P.not r) (P.bind (types_Equal k (x.fst, x.snd.snd.snd, x.snd.fst)) fun (r : Bool) => P.bind (types_Equal k (x.fst, x.snd.fst, x.snd.snd.snd)) fun (r_1 : Bool) => some (P.beq r r_1)) (P.bind (types_Sub k (x.fst, x.snd.fst, x.snd.snd.snd)) fun (r : Bool) => P.cond (P.not r) (P.bind (types_Equal k (x.fst, x.snd.snd.snd, x.snd.fst)) fun (r : Bool) => P.bind (types_Equal k (x.fst, x.snd.fst, x.snd.snd.snd)) fun (r_1 : Bool) => some (P.beq r r_1)) (P.bind (types_Sub k (x.fst, x.snd.snd.snd, x.snd.snd.snd)) fun (r : Bool) => P.cond r (P.bind (types_Equal k (x.fst, x.snd.snd.snd, x.snd.fst)) fun (r : Bool) => P.bind (types_Equal k (x.fst, x.snd.fst, x.snd.snd.snd)) fun (r_1 : Bool) => some (P.beq r r_1)) (some false)))) (some false))))))))))) none))) (P.cond (P.ieq ((1 : Int)) ((1 : Int))) (P.cond (P.ieq ((2 : Int)) ((0 : Int))) (P.bind (law24_fixed k PUnit.unit) fun (r : Bool) => P.cond (P.not r) (P.bind (law24_fixed k PUnit.unit) fun (r : Bool) => some r) (P.bind (ref24_Small k x.fst) fun (r : Bool) => P.cond (P.not r) (P.bind (law24_fixed k PUnit.unit) fun (r : Bool) => some r) (P.bind (ref24_May k x.fst) fun (r : Bool) => P.cond (P.not r) (P.bind (law24_fixed k PUnit.unit) fun (r : Bool) => some r) (P.cond (P.ilt x.snd.snd.snd ((0 : Int))) (P.bind (law24_fixed k PUnit.unit) fun (r : Bool) => some r) (P.cond (P.ilt x.snd.snd.fst ((0 : Int))) (P.bind (law24_fixed k PUnit.unit) fun (r : Bool) => some r) (P.cond (P.ilt x.snd.fst ((0 : Int))) (P.bind (law24_fixed k PUnit.unit) fun (r : Bool) => some r) (P.cond (P.ile (P.len x.fst) x.snd.snd.snd) (P.bind (law24_fixed k PUnit.unit) fun (r : Bool) => some r) (P.cond (P.ile (P.len x.fst) x.snd.snd.fst) (P.bind (law24_fixed k PUnit.unit) fun (r : Bool) => some r) (P.cond (P.ile (P.len x.fst) x.snd.fst) (P.bind (law24_fixed k PUnit.unit) fun (r : Bool) => some r) (P.bind (types_Sub k (x.fst, x.snd.snd.snd, x.snd.snd.snd)) fun (r : Bool) => P.cond r (P.bind (types_Sub k (x.fst, x.snd.snd.snd, x.snd.snd.fst)) fun (r : Bool) => P.cond (P.not r) (P.bind (types_Equal k (x.fst, x.snd.snd.snd, x.snd.snd.fst)) fun (r : Bool) => P.bind (types_Equal k (x.fst, x.snd.snd.fst, x.snd.snd.snd)) fun (r_1 : Bool) => some (P.beq r r_1)) (P.bind (types_Sub k (x.fst, x.snd.snd.fst, x.snd.fst)) fun (r : Bool) => P.cond (P.not r) (P.bind (types_Equal k (x.fst, x.snd.snd.snd, x.snd.snd.fst)) fun (r : Bool) => P.bind (types_Equal k (x.fst, x.snd.snd.fst, x.snd.snd.snd)) fun (r_1 : Bool) => some (P.beq r r_1)) (P.bind (types_Sub k (x.fst, x.snd.snd.snd, x.snd.fst)) fun (r : Bool) => P.cond r (P.bind (types_Equal k (x.fst, x.snd.snd.snd, x.snd.snd.fst)) fun (r : Bool) => P.bind (types_Equal k (x.fst, x.snd.snd.fst, x.snd.snd.snd)) fun (r_1 : Bool) => some (P.beq r r_1)) (some false)))) (some false))))))))))) (P.cond (P.ieq ((2 : Int)) ((1 : Int))) (P.bind (law24_fixed k PUnit.unit) fun (r : Bool) => P.cond (P.not r) (P.bind (law24_fixed k PUnit.unit) fun (r : Bool) => some r) (P.bind (ref24_Small k x.fst) fun (r : Bool) => P.cond (P.not r) (P.bind (law24_fixed k PUnit.unit) fun (r : Bool) => some r) (P.bind (ref24_May k x.fst) fun (r : Bool) => P.cond (P.not r) (P.bind (law24_fixed k PUnit.unit) fun (r : Bool) => some r) (P.cond (P.ilt x.snd.snd.snd ((0 : Int))) (P.bind (law24_fixed k PUnit.unit) fun (r : Bool) => some r) (P.cond (P.ilt x.snd.snd.fst ((0 : Int))) (P.bind (law24_fixed k PUnit.unit) fun (r : Bool) => some r) (P.cond (P.ilt x.snd.snd.fst ((0 : Int))) (P.bind (law24_fixed k PUnit.unit) fun (r : Bool) => some r) (P.cond (P.ile (P.len x.fst) x.snd.snd.snd) (P.bind (law24_fixed k PUnit.unit) fun (r : Bool) => some r) (P.cond (P.ile (P.len x.fst) x.snd.snd.fst) (P.bind (law24_fixed k PUnit.unit) fun (r : Bool) => some r) (P.cond (P.ile (P.len x.fst) x.snd.snd.fst) (P.bind (law24_fixed k PUnit.unit) fun (r : Bool) => some r) (P.bind (types_Sub k (x.fst, x.snd.snd.snd, x.snd.snd.snd)) fun (r : Bool) => P.cond r (P.bind (types_Sub k (x.fst, x.snd.snd.snd, x.snd.snd.fst)) fun (r : Bool) => P.cond (P.not r) (P.bind (types_Equal k (x.fst, x.snd.snd.snd, x.snd.snd.fst)) fun (r : Bool) => P.bind (types_Equal k (x.fst, x.snd.snd.fst, x.snd.snd.snd)) fun (r_1 : Bool) => some (P.beq r r_1)) (P.bind (types_Sub k (x.fst, x.snd.snd.fst, x.snd.snd.fst)) fun (r : Bool) => P.cond (P.not r) (P.bind (types_Equal k (x.fst, x.snd.snd.snd, x.snd.snd.fst)) fun (r : Bool) => P.bind (types_Equal k (x.fst, x.snd.snd.fst, x.snd.snd.snd)) fun (r_1 : Bool) => some (P.beq r r_1)) (P.bind (types_Sub k (x.fst, x.snd.snd.snd, x.snd.snd.fst)) fun (r : Bool) => P.cond r (P.bind (types_Equal k (x.fst, x.snd.snd.snd, x.snd.snd.fst)) fun (r : Bool) => P.bind (types_Equal k (x.fst, x.snd.snd.fst, x.snd.snd.snd)) fun (r_1 : Bool) => some (P.beq r r_1)) (some false)))) (some false))))))))))) (P.cond (P.ieq ((2 : Int)) ((2 : Int))) (P.bind (law24_fixed k PUnit.unit) fun (r : Bool) => P.cond (P.not r) (P.bind (law24_fixed k PUnit.unit) fun (r : Bool) => some r) (P.bind (ref24_Small k x.fst) fun (r : Bool) => P.cond (P.not r) (P.bind (law24_fixed k PUnit.unit) fun (r : Bool) => some r) (P.bind (ref24_May k x.fst) fun (r : Bool) => P.cond (P.not r) (P.bind (law24_fixed k PUnit.unit) fun (r : Bool) => some r) (P.cond (P.ilt x.snd.snd.snd ((0 : Int))) (P.bind (law24_fixed k PUnit.unit) fun (r : Bool) => some r) (P.cond (P.ilt x.snd.snd.fst ((0 : Int))) (P.bind (law24_fixed k PUnit.unit) fun (r : Bool) => some r) (P.cond (P.ilt x.snd.snd.snd ((0 : Int))) (P.bind (law24_fixed k PUnit.unit) fun (r : Bool) => some r) (P.cond (P.ile (P.len x.fst) x.snd.snd.snd) (P.bind (law24_fixed k PUnit.unit) fun (r : Bool) => some r) (P.cond (P.ile (P.len x.fst) x.snd.snd.fst) (P.bind (law24_fixed k PUnit.unit) fun (r : Bool) => some r) (P.cond (P.ile (P.len x.fst) x.snd.snd.snd) (P.bind (law24_fixed k PUnit.unit) fun (r : Bool) => some r) (P.bind (types_Sub k (x.fst, x.snd.snd.snd, x.snd.snd.snd)) fun (r : Bool) => P.cond r (P.bind (types_Sub k (x.fst, x.snd.snd.snd, x.snd.snd.fst)) fun (r : Bool) => P.cond (P.not r) (P.bind (types_Equal k (x.fst, x.snd.snd.snd, x.snd.snd.fst)) fun (r : Bool) => P.bind (types_Equal k (x.fst, x.snd.snd.fst, x.snd.snd.snd)) fun (r_1 : Bool) => some (P.beq r r_1)) (P.bind (types_Sub k (x.fst, x.snd.snd.fst, x.snd.snd.snd)) fun (r : Bool) => P.cond (P.not r) (P.bind (types_Equal k (x.fst, x.snd.snd.snd, x.snd.snd.fst)) fun (r : Bool) => P.bind (types_Equal k (x.fst, x.snd.snd.fst, x.snd.snd.snd)) fun (r_1 : Bool) => some (P.beq r r_1)) (P.bind (types_Sub k (x.fst, x.snd.snd.snd, x.snd.snd.snd)) fun (r : Bool) => P.cond r (P.bind (types_Equal k (x.fst, x.snd.snd.snd, x.snd.snd.fst)) fun (r : Bool) => P.bind (types_Equal k (x.fst, x.snd.snd.fst, x.snd.snd.snd)) fun (r_1 : Bool) => some (P.beq r r_1)) (some false)))) (some false))))))))))) none))) (P.cond (P.ieq ((1 : Int)) ((2 : Int))) (P.cond (P.ieq ((2 : Int)) ((0 : Int))) (P.bind (law24_fixed k PUnit.unit) fun (r : Bool) => P.cond (P.not r) (P.bind (law24_fixed k PUnit.unit) fun (r : Bool) => some r) (P.bind (ref24_Small k x.fst) fun (r : Bool) => P.cond (P.not r) (P.bind (law24_fixed k PUnit.unit) fun (r : Bool) => some r) (P.bind (ref24_May k x.fst) fun (r : Bool) => P.cond (P.not r) (P.bind (law24_fixed k PUnit.unit) fun (r : Bool) => some r) (P.cond (P.ilt x.snd.snd.snd ((0 : Int))) (P.bind (law24_fixed k PUnit.unit) fun (r : Bool) => some r) (P.cond (P.ilt x.snd.snd.snd ((0 : Int))) (P.bind (law24_fixed k PUnit.unit) fun (r : Bool) => some r) (P.cond (P.ilt x.snd.fst ((0 : Int))) (P.bind (law24_fixed k PUnit.unit) fun (r : Bool) => some r) (P.cond (P.ile (P.len x.fst) x.snd.snd.snd) (P.bind (law24_fixed k PUnit.unit) fun (r : Bool) => some r) (P.cond (P.ile (P.len x.fst) x.snd.snd.snd) (P.bind (law24_fixed k PUnit.unit) fun (r : Bool) => some r) (P.cond (P.ile (P.len x.fst) x.snd.fst) (P.bind (law24_fixed k PUnit.unit) fun (r : Bool) => some r) (P.bind (types_Sub k (x.fst, x.snd.snd.snd, x.snd.snd.snd)) fun (r : Bool) => P.cond r (P.bind (types_Sub k (x.fst, x.snd.snd.snd, x.snd.snd.snd)) fun (r : Bool) => P.cond (P.not r) (P.bind (types_Equal k (x.fst, x.snd.snd.snd, x.snd.snd.snd)) fun (r : Bool) => P.bind (types_Equal k (x.fst, x.snd.snd.snd, x.snd.snd.snd)) fun (r_1 : Bool) => some (P.beq r r_1)) (P.bind (types_Sub k (x.fst, x.snd.snd.snd, x.snd.fst)) fun (r : Bool) => P.cond (P.not r) (P.bind (types_Equal k (x.fst, x.snd.snd.snd, x.snd.snd.snd)) fun (r : Bool) => P.bind (types_Equal k (x.fst, x.snd.snd.snd, x.snd.snd.snd)) fun (r_1 : Bool) => some (P.beq r r_1)) (P.bind (types_Sub k (x.fst, x.snd.snd.snd, x.snd.fst)) fun (r : Bool) => P.cond r (P.bind (types_Equal k (x.fst, x.snd.snd.snd, x.snd.snd.snd)) fun (r : Bool) => P.bind (types_Equal k (x.fst, x.snd.snd.snd, x.snd.snd.snd)) fun (r_1 : Bool) => some (P.beq r r_1)) (some false)))) (some false))))))))))) (P.cond (P.ieq ((2 : Int)) ((1 : Int))) (P.bind (law24_fixed k PUnit.unit) fun (r : Bool) => P.cond (P.not r) (P.bind (law24_fixed k PUnit.unit) fun (r : Bool) => some r) (P.bind (ref24_Small k x.fst) fun (r : Bool) => P.cond (P.not r) (P.bind (law24_fixed k PUnit.unit) fun (r : Bool) => some r) (P.bind (ref24_May k x.fst) fun (r : Bool) => P.cond (P.not r) (P.bind (law24_fixed k PUnit.unit) fun (r : Bool) => some r) (P.cond (P.ilt x.snd.snd.snd ((0 : Int))) (P.bind (law24_fixed k PUnit.unit) fun (r : Bool) => some r) (P.cond (P.ilt x.snd.snd.snd ((0 : Int))) (P.bind (law24_fixed k PUnit.unit) fun (r : Bool) => some r) (P.cond (P.ilt x.snd.snd.fst ((0 : Int))) (P.bind (law24_fixed k PUnit.unit) fun (r : Bool) => some r) (P.cond (P.ile (P.len x.fst) x.snd.snd.snd) (P.bind (law24_fixed k PUnit.unit) fun (r : Bool) => some r) (P.cond (P.ile (P.len x.fst) x.snd.snd.snd) (P.bind (law24_fixed k PUnit.unit) fun (r : Bool) => some r) (P.cond (P.ile (P.len x.fst) x.snd.snd.fst) (P.bind (law24_fixed k PUnit.unit) fun (r : Bool) => some r) (P.bind (types_Sub k (x.fst, x.snd.snd.snd, x.snd.snd.snd)) fun (r : Bool) => P.cond r (P.bind (types_Sub k (x.fst, x.snd.snd.snd, x.snd.snd.snd)) fun (r : Bool) => P.cond (P.not r) (P.bind (types_Equal k (x.fst, x.snd.snd.snd, x.snd.snd.snd)) fun (r : Bool) => P.bind (types_Equal k (x.fst, x.snd.snd.snd, x.snd.snd.snd)) fun (r_1 : Bool) => some (P.beq r r_1)) (P.bind (types_Sub k (x.fst, x.snd.snd.snd, x.snd.snd.fst)) fun (r : Bool) => P.cond (P.not r) (P.bind (types_Equal k (x.fst, x.snd.snd.snd, x.snd.snd.snd)) fun (r : Bool) => P.bind (types_Equal k (x.fst, x.snd.snd.snd, x.snd.snd.snd)) fun (r_1 : Bool) => some (P.beq r r_1)) (P.bind (types_Sub k (x.fst, x.snd.snd.snd, x.snd.snd.fst)) fun (r : Bool) => P.cond r (P.bind (types_Equal k (x.fst, x.snd.snd.snd, x.snd.snd.snd)) fun (r : Bool) => P.bind (types_Equal k (x.fst, x.snd.snd.snd, x.snd.snd.snd)) fun (r_1 : Bool) => some (P.beq r r_1)) (some false)))) (some false))))))))))) (P.cond (P.ieq ((2 : Int)) ((2 : Int))) (P.bind (law24_fixed k PUnit.unit) fun (r : Bool) => P.cond (P.not r) (P.bind (law24_fixed k PUnit.unit) fun (r : Bool) => some r) (P.bind (ref24_Small k x.fst) fun (r : Bool) => P.cond (P.not r) (P.bind (law24_fixed k PUnit.unit) fun (r : Bool) => some r) (P.bind (ref24_May k x.fst) fun (r : Bool) => P.cond (P.not r) (P.bind (law24_fixed k PUnit.unit) fun (r : Bool) => some r) (P.cond (P.ilt x.snd.snd.snd ((0 : Int))) (P.bind (law24_fixed k PUnit.unit) fun (r : Bool) => some r) (P.cond (P.ilt x.snd.snd.snd ((0 : Int))) (P.bind (law24_fixed k PUnit.unit) fun (r : Bool) => some r) (P.cond (P.ilt x.snd.snd.snd ((0 : Int))) (P.bind (law24_fixed k PUnit.unit) fun (r : Bool) => some r) (P.cond (P.ile (P.len x.fst) x.snd.snd.snd) (P.bind (law24_fixed k PUnit.unit) fun (r : Bool) => some r) (P.cond (P.ile (P.len x.fst) x.snd.snd.snd) (P.bind (law24_fixed k PUnit.unit) fun (r : Bool) => some r) (P.cond (P.ile (P.len x.fst) x.snd.snd.snd) (P.bind (law24_fixed k PUnit.unit) fun (r : Bool) => some r) (P.bind (types_Sub k (x.fst, x.snd.snd.snd, x.snd.snd.snd)) fun (r : Bool) => P.cond r (P.bind (types_Sub k (x.fst, x.snd.snd.snd, x.snd.snd.snd)) fun (r : Bool) => P.cond (P.not r) (P.bind (types_Equal k (x.fst, x.snd.snd.snd, x.snd.snd.snd)) fun (r : Bool) => P.bind (types_Equal k (x.fst, x.snd.snd.snd, x.snd.snd.snd)) fun (r_1 : Bool) => some (P.beq r r_1)) (P.bind (types_Sub k (x.fst, x.snd.snd.snd, x.snd.snd.snd)) fun (r : Bool) => P.cond (P.not r) (P.bind (types_Equal k (x.fst, x.snd.snd.snd, x.snd.snd.snd)) fun (r : Bool) => P.bind (types_Equal k (x.fst, x.snd.snd.snd, x.snd.snd.snd)) fun (r_1 : Bool) => some (P.beq r r_1)) (P.bind (types_Sub k (x.fst, x.snd.snd.snd, x.snd.snd.snd)) fun (r : Bool) => P.cond r (P.bind (types_Equal k (x.fst, x.snd.snd.snd, x.snd.snd.snd)) fun (r : Bool) => P.bind (types_Equal k (x.fst, x.snd.snd.snd, x.snd.snd.snd)) fun (r_1 : Bool) => some (P.beq r r_1)) (some false)))) (some false))))))))))) none))) none))) none))
theorem law24_TypesOrder_eq (k : Nat) (x : (Ty.D (.pair (.slice T_api_Type) (.st (.pair (.int .i64) (.pair (.int .i64) (.int .i64))))))) : evFn (EN k [(15, ⟨(.slice T_api_Type), .bool, ref24_Small k⟩), (16, ⟨.unit, .bool, law24_fixed k⟩), (18, ⟨(.slice T_api_Type), .bool, ref24_May k⟩), (19, ⟨(.pair (.slice T_api_Type) (.pair (.int .i64) (.int .i64))), .bool, types_Sub k⟩), (21, ⟨(.pair (.slice T_api_Type) (.pair (.int .i64) (.int .i64))), .bool, types_Equal k⟩)]) 6 Try.f4 [] (.pair (.slice T_api_Type) (.st (.pair (.int .i64) (.pair (.int .i64) (.int .i64))))) .bool x = law24_TypesOrder k x := by kernel_rfl
theorem law24_TypesOrder_spec (k : Nat) : SpecOk Try.prog GG 4 ⟨(.pair (.slice T_api_Type) (.st (.pair (.int .i64) (.pair (.int .i64) (.int .i64))))), .bool, law24_TypesOrder k⟩ :=
  fn_spec (envOk (E := EN k [(15, ⟨(.slice T_api_Type), .bool, ref24_Small k⟩), (16, ⟨.unit, .bool, law24_fixed k⟩), (18, ⟨(.slice T_api_Type), .bool, ref24_May k⟩), (19, ⟨(.pair (.slice T_api_Type) (.pair (.int .i64) (.int .i64))), .bool, types_Sub k⟩), (21, ⟨(.pair (.slice T_api_Type) (.pair (.int .i64) (.int .i64))), .bool, types_Equal k⟩)]) tabOk (.cons (ref24_Small_spec k) f15_at f15_ok <| .cons (law24_fixed_spec k) f16_at f16_ok <| .cons (ref24_May_spec k) f18_at f18_ok <| .cons (types_Sub_spec k) f19_at f19_ok <| .cons (types_Equal_spec k) f21_at f21_ok <| .nil) codesOk mixedOk (fun _ _ _ _ => trivial) (hmp := mapsOk) (hdm := dmapsOk)) f4_at (fun x => (law24_TypesOrder_eq k x).symm)
noncomputable def law24_small : (k : Nat) → (Ty.D (.slice T_api_Obj)) → Option (Ty.D .bool) := fun (k : Nat) (x : T_api_Obj.slice.D) => P.bind (P.iter k (fun (y : Int) => P.cond (P.ilt y (P.len x)) (P.cond (P.inb y (P.len x)) (P.cond (P.ilt ((10 : Int)) (P.len (P.get x y ([], (0 : Int), (0 : Int))).fst)) (some (Sum.inr (Sum.inr false))) (some (Sum.inl (P.wrap IntKind.i64 (P.add y ((1 : Int))))))) none) (some (Sum.inr (Sum.inl PUnit.unit)))) ((0 : Int))) (P.either (fun (z : PUnit) => some (P.ile (P.len x) ((16 : Int)))) fun (r : Bool) => some r)
theorem law24_small_eq (k : Nat) (x : (Ty.D (.slice T_api_Obj))) : evFn (EN k []) 6 Try.f23 [(2, ⟨[.var 3 (.d (.int .i64))], [], (some (0, []))⟩)] (.slice T_api_Obj) .bool x = law24_small k x := by kernel_rfl
theorem law24_small_spec (k : Nat) : SpecOk Try.prog GG 23 ⟨(.slice T_api_Obj), .bool, law24_small k⟩ :=
  fn_spec (envOk (E := EN k []) tabOk (.nil) codesOk mixedOk (fun _ _ _ _ => trivial) (hmp := mapsOk) (hdm := dmapsOk)) f23_at (fun x => (law24_small_eq k x).symm)
noncomputable def ref19_Right : (k : Nat) → (Ty.D (.pair (.slice T_api_Obj) T_api_Val)) → Option (Ty.D .bool) := fun (k : Nat) (x : (T_api_Obj.slice.pair T_api_Val).D) => P.cond (P.ieq x.snd.fst ((0 : Int))) (some (P.ieq x.snd.snd ((0 : Int)))) (P.cond (P.ieq x.snd.fst ((1 : Int))) (P.cond (P.ieq x.snd.snd ((0 : Int))) (some true) (some (P.ieq x.snd.snd ((1 : Int))))) (P.cond (P.ieq x.snd.fst ((2 : Int))) (some true) (P.cond (P.ieq x.snd.fst ((3 : Int))) (some (P.ile ((0 : Int)) x.snd.snd)) (P.cond (P.ieq x.snd.fst ((4 : Int))) (P.cond (P.ile ((0 : Int)) x.snd.snd) (some (P.ilt x.snd.snd (P.len x.fst))) (some false)) (some false)))))
theorem ref19_Right_eq (k : Nat) (x : (Ty.D (.pair (.slice T_api_Obj) T_api_Val))) : evFn (EN k []) 6 Try.f42 [] (.pair (.slice T_api_Obj) T_api_Val) .bool x = ref19_Right k x := by kernel_rfl
theorem ref19_Right_spec (k : Nat) : SpecOk Try.prog GG 42 ⟨(.pair (.slice T_api_Obj) T_api_Val), .bool, ref19_Right k⟩ :=
  fn_spec (envOk (E := EN k []) tabOk (.nil) codesOk mixedOk (fun _ _ _ _ => trivial) (hmp := mapsOk) (hdm := dmapsOk)) f42_at (fun x => (ref19_Right_eq k x).symm)
noncomputable def ref19_May : (k : Nat) → (Ty.D (.slice T_api_Obj)) → Option (Ty.D .bool) := fun (k : Nat) (x : T_api_Obj.slice.D) => P.bind (P.iter k (fun (y : Int) => P.cond (P.ilt y (P.len x)) (P.cond (P.inb y (P.len x)) (P.bind (P.iter k (fun (y_1 : Int) => P.cond (P.ilt y_1 (P.len (P.get x y ([], (0 : Int), (0 : Int))).fst)) (P.cond (P.inb y_1 (P.len (P.get x y ([], (0 : Int), (0 : Int))).fst)) (P.bind (ref19_Right k (x, (P.get (P.get x y ([], (0 : Int), (0 : Int))).fst y_1 ((ByteArray.mk #[]), (0 : Int), (0 : Int))).snd)) fun (r : Bool) => P.cond (P.not r) (some (Sum.inr (Sum.inr (Sum.inr (Sum.inr false))))) (P.cond (P.ilt ((0 : Int)) y_1) (P.cond (P.inb (P.wrap IntKind.i64 (P.sub y_1 ((1 : Int)))) (P.len (P.get x y ([], (0 : Int), (0 : Int))).fst)) (P.cond (P.inb y_1 (P.len (P.get x y ([], (0 : Int), (0 : Int))).fst)) (P.cond (P.not (P.slt (P.get (P.get x y ([], (0 : Int), (0 : Int))).fst (P.wrap IntKind.i64 (P.sub y_1 ((1 : Int)))) ((ByteArray.mk #[]), (0 : Int), (0 : Int))).fst (P.get (P.get x y ([], (0 : Int), (0 : Int))).fst y_1 ((ByteArray.mk #[]), (0 : Int), (0 : Int))).fst)) (some (Sum.inr (Sum.inr (Sum.inr (Sum.inr false))))) (some (Sum.inl (P.wrap IntKind.i64 (P.add y_1 ((1 : Int))))))) none) none) (some (Sum.inl (P.wrap IntKind.i64 (P.add y_1 ((1 : Int)))))))) none) (some (Sum.inr (Sum.inl PUnit.unit)))) ((0 : Int))) (P.either (fun (z : PUnit) => P.cond (P.not (P.and (P.ieq (P.get x y ([], (0 : Int), (0 : Int))).snd.fst ((0 : Int))) (P.ieq (P.get x y ([], (0 : Int), (0 : Int))).snd.snd ((0 : Int))))) (P.cond (P.not (P.ieq (P.get x y ([], (0 : Int), (0 : Int))).snd.fst ((4 : Int)))) (some (Sum.inr (Sum.inr false))) (P.cond (P.ilt (P.get x y ([], (0 : Int), (0 : Int))).snd.snd ((0 : Int))) (some (Sum.inr (Sum.inr false))) (P.cond (P.ile y (P.get x y ([], (0 : Int), (0 : Int))).snd.snd) (some (Sum.inr (Sum.inr false))) (some (Sum.inl (P.wrap IntKind.i64 (P.add y ((1 : Int))))))))) (some (Sum.inl (P.wrap IntKind.i64 (P.add y ((1 : Int))))))) fun (r : Int ⊕ PUnit ⊕ Bool) => some r)) none) (some (Sum.inr (Sum.inl PUnit.unit)))) ((0 : Int))) (P.either (fun (z : PUnit) => some true) fun (r : Bool) => some r)
theorem ref19_May_eq (k : Nat) (x : (Ty.D (.slice T_api_Obj))) : evFn (EN k [(42, ⟨(.pair (.slice T_api_Obj) T_api_Val), .bool, ref19_Right k⟩)]) 6 Try.f24 [(2, ⟨[.var 3 (.d (.int .i64))], [], (some (0, []))⟩), (6, ⟨[.var 5 (.d (.int .i64))], [], (some (2, []))⟩)] (.slice T_api_Obj) .bool x = ref19_May k x := by kernel_rfl
theorem ref19_May_spec (k : Nat) : SpecOk Try.prog GG 24 ⟨(.slice T_api_Obj), .bool, ref19_May k⟩ :=
  fn_spec (envOk (E := EN k [(42, ⟨(.pair (.slice T_api_Obj) T_api_Val), .bool, ref19_Right k⟩)]) tabOk (.cons (ref19_Right_spec k) f42_at f42_ok <| .nil) codesOk mixedOk (fun _ _ _ _ => trivial) (hmp := mapsOk) (hdm := dmapsOk)) f24_at (fun x => (ref19_May_eq k x).symm)
noncomputable def law24_TypesSound : (k : Nat) → (Ty.D (.pair (.slice T_api_Type) (.pair (.slice T_api_Obj) T_proteanlaw24_To))) → Option (Ty.D .bool) := fun (k : Nat) (x : (T_api_Type.slice.pair (T_api_Obj.slice.pair T_proteanlaw24_To)).D) => P.bind (law24_fixed k PUnit.unit) fun (r : Bool) => P.cond (P.not r) (P.bind (law24_fixed k PUnit.unit) fun (r : Bool) => some r) (P.bind (ref24_Small k x.fst) fun (r : Bool) => P.cond (P.not r) (P.bind (law24_fixed k PUnit.unit) fun (r : Bool) => some r) (P.bind (law24_small k x.snd.fst) fun (r : Bool) => P.cond (P.not r) (P.bind (law24_fixed k PUnit.unit) fun (r : Bool) => some r) (P.bind (ref19_May k x.snd.fst) fun (r : Bool) => P.cond (P.not r) (P.bind (law24_fixed k PUnit.unit) fun (r : Bool) => some r) (P.bind (types_In k (x.fst, x.snd.fst, x.snd.snd.fst, x.snd.snd.snd.fst)) fun (r : Bool) => P.cond (P.not r) (some true) (P.bind (types_Sub k (x.fst, x.snd.snd.snd.fst, x.snd.snd.snd.snd)) fun (r : Bool) => P.cond (P.not r) (some true) (P.bind (types_In k (x.fst, x.snd.fst, x.snd.snd.fst, x.snd.snd.snd.snd)) fun (r : Bool) => some r))))))
theorem law24_TypesSound_eq (k : Nat) (x : (Ty.D (.pair (.slice T_api_Type) (.pair (.slice T_api_Obj) T_proteanlaw24_To)))) : evFn (EN k [(15, ⟨(.slice T_api_Type), .bool, ref24_Small k⟩), (16, ⟨.unit, .bool, law24_fixed k⟩), (19, ⟨(.pair (.slice T_api_Type) (.pair (.int .i64) (.int .i64))), .bool, types_Sub k⟩), (23, ⟨(.slice T_api_Obj), .bool, law24_small k⟩), (24, ⟨(.slice T_api_Obj), .bool, ref19_May k⟩), (25, ⟨(.pair (.slice T_api_Type) (.pair (.slice T_api_Obj) (.pair T_api_Val (.int .i64)))), .bool, types_In k⟩)]) 6 Try.f5 [] (.pair (.slice T_api_Type) (.pair (.slice T_api_Obj) T_proteanlaw24_To)) .bool x = law24_TypesSound k x := by kernel_rfl
theorem law24_TypesSound_spec (k : Nat) : SpecOk Try.prog GG 5 ⟨(.pair (.slice T_api_Type) (.pair (.slice T_api_Obj) T_proteanlaw24_To)), .bool, law24_TypesSound k⟩ :=
  fn_spec (envOk (E := EN k [(15, ⟨(.slice T_api_Type), .bool, ref24_Small k⟩), (16, ⟨.unit, .bool, law24_fixed k⟩), (19, ⟨(.pair (.slice T_api_Type) (.pair (.int .i64) (.int .i64))), .bool, types_Sub k⟩), (23, ⟨(.slice T_api_Obj), .bool, law24_small k⟩), (24, ⟨(.slice T_api_Obj), .bool, ref19_May k⟩), (25, ⟨(.pair (.slice T_api_Type) (.pair (.slice T_api_Obj) (.pair T_api_Val (.int .i64)))), .bool, types_In k⟩)]) tabOk (.cons (ref24_Small_spec k) f15_at f15_ok <| .cons (law24_fixed_spec k) f16_at f16_ok <| .cons (types_Sub_spec k) f19_at f19_ok <| .cons (law24_small_spec k) f23_at f23_ok <| .cons (ref19_May_spec k) f24_at f24_ok <| .cons (types_In_spec k) f25_at f25_ok <| .nil) codesOk mixedOk (fun _ _ _ _ => trivial) (hmp := mapsOk) (hdm := dmapsOk)) f5_at (fun x => (law24_TypesSound_eq k x).symm)
noncomputable def law24_TypesGrow : (k : Nat) → (Ty.D (.pair (.slice T_api_Type) (.pair (.int .i64) (.int .i64)))) → Option (Ty.D .bool) := fun (k : Nat) (x : (T_api_Type.slice.pair ((Ty.int IntKind.i64).pair (Ty.int IntKind.i64))).D) => P.bind (law24_fixed k PUnit.unit) fun (r : Bool) => P.cond (P.not r) (P.bind (law24_fixed k PUnit.unit) fun (r : Bool) => some r) (P.bind (ref24_Small k x.fst) fun (r : Bool) => P.cond (P.not r) (P.bind (law24_fixed k PUnit.unit) fun (r : Bool) => some r) (P.cond (P.ilt ((14 : Int)) (P.len x.fst)) (P.bind (law24_fixed k PUnit.unit) fun (r : Bool) => some r) (P.bind (ref24_May k x.fst) fun (r : Bool) => P.cond (P.not r) (P.bind (law24_fixed k PUnit.unit) fun (r : Bool) => some r) (P.cond (P.ilt x.snd.fst ((0 : Int))) (P.bind (law24_fixed k PUnit.unit) fun (r : Bool) => some r) (P.cond (P.ilt x.snd.snd ((0 : Int))) (P.bind (law24_fixed k PUnit.unit) fun (r : Bool) => some r) (P.cond (P.ile (P.len x.fst) x.snd.fst) (P.bind (law24_fixed k PUnit.unit) fun (r : Bool) => some r) (P.cond (P.ile (P.len x.fst) x.snd.snd) (P.bind (law24_fixed k PUnit.unit) fun (r : Bool) => some r) (P.cond (P.room (P.add (P.len (P.nil (Int × List (ByteArray × Int) × List Int))) (P.len x.fst)) 56) (P.cond (P.room (P.add (P.len (P.app [] x.fst)) (P.len ([((0 : Int), [], []), ((1 : Int), [], [])] : List (Int × List (ByteArray × Int) × List Int)))) 56) (P.bind (types_Sub k (P.app (P.app [] x.fst) [((0 : Int), [], []), ((1 : Int), [], [])], x.snd.fst, x.snd.snd)) fun (r : Bool) => P.bind (types_Sub k (x.fst, x.snd.fst, x.snd.snd)) fun (r_1 : Bool) => P.cond (P.not (P.beq r r_1)) (some false) (P.bind (types_Sub k (P.app (P.app [] x.fst) [((0 : Int), [], []), ((1 : Int), [], [])], x.snd.fst, P.len x.fst)) fun (r : Bool) => P.cond (P.not r) (some false) (P.bind (types_Sub k (P.app (P.app [] x.fst) [((0 : Int), [], []), ((1 : Int), [], [])], P.len x.fst, P.wrap IntKind.i64 (P.add (P.len x.fst) ((1 : Int))))) fun (r : Bool) => P.cond r (some false) (P.cond (P.inb x.snd.fst (P.len x.fst)) (P.cond (P.ieq (P.get x.fst x.snd.fst ((0 : Int), [], [])).fst ((5 : Int))) (some true) (P.bind (types_Sub k (P.app (P.app [] x.fst) [((0 : Int), [], []), ((1 : Int), [], [])], x.snd.fst, P.wrap IntKind.i64 (P.add (P.len x.fst) ((1 : Int))))) fun (r : Bool) => P.cond (P.inb x.snd.fst (P.len x.fst)) (some (P.beq r (P.ieq (P.get x.fst x.snd.fst ((0 : Int), [], [])).fst ((1 : Int))))) none)) none)))) none) none))))))))
theorem law24_TypesGrow_eq (k : Nat) (x : (Ty.D (.pair (.slice T_api_Type) (.pair (.int .i64) (.int .i64))))) : evFn (EN k [(15, ⟨(.slice T_api_Type), .bool, ref24_Small k⟩), (16, ⟨.unit, .bool, law24_fixed k⟩), (18, ⟨(.slice T_api_Type), .bool, ref24_May k⟩), (19, ⟨(.pair (.slice T_api_Type) (.pair (.int .i64) (.int .i64))), .bool, types_Sub k⟩)]) 6 Try.f6 [] (.pair (.slice T_api_Type) (.pair (.int .i64) (.int .i64))) .bool x = law24_TypesGrow k x := by kernel_rfl
theorem law24_TypesGrow_spec (k : Nat) : SpecOk Try.prog GG 6 ⟨(.pair (.slice T_api_Type) (.pair (.int .i64) (.int .i64))), .bool, law24_TypesGrow k⟩ :=
  fn_spec (envOk (E := EN k [(15, ⟨(.slice T_api_Type), .bool, ref24_Small k⟩), (16, ⟨.unit, .bool, law24_fixed k⟩), (18, ⟨(.slice T_api_Type), .bool, ref24_May k⟩), (19, ⟨(.pair (.slice T_api_Type) (.pair (.int .i64) (.int .i64))), .bool, types_Sub k⟩)]) tabOk (.cons (ref24_Small_spec k) f15_at f15_ok <| .cons (law24_fixed_spec k) f16_at f16_ok <| .cons (ref24_May_spec k) f18_at f18_ok <| .cons (types_Sub_spec k) f19_at f19_ok <| .nil) codesOk mixedOk (fun _ _ _ _ => trivial) (hmp := mapsOk) (hdm := dmapsOk)) f6_at (fun x => (law24_TypesGrow_eq k x).symm)
end
section
namespace Go.PL
open Go.PG
theorem cond_true {α : Type} (x y : α) : P.cond true x y = x := rfl
theorem cond_false {α : Type} (x y : α) : P.cond false x y = y := rfl
theorem bind_some {α β : Type} (a : α) (f : α → Option β) : P.bind (some a) f = f a := rfl
theorem either_inl {α β γ : Type} (f : α → γ) (g : β → γ) (a : α) : P.either f g (.inl a) = f a := rfl
section
variable {τ ρ : Type} {f : τ → Option (τ ⊕ ρ)}
theorem iter_succ (k : Nat) (x : τ) : P.iter (k + 1) f x = match f x with
    | none => none
    | some (.inl y) => P.iter k f y
    | some (.inr r) => some r := rfl
theorem iter_step {k : Nat} {x y : τ} (hk : 0 < k) (h : f x = some (.inl y)) : P.iter k f x = P.iter (k - 1) f y := by
  obtain ⟨k, rfl⟩ : ∃ m, k = m + 1 := ⟨k - 1, by omega⟩
  rw [iter_succ, h]; rfl
theorem iter_done {k : Nat} {x : τ} {r : ρ} (hk : 0 < k) (h : f x = some (.inr r)) : P.iter k f x = some r := by
  obtain ⟨k, rfl⟩ : ∃ m, k = m + 1 := ⟨k - 1, by omega⟩
  rw [iter_succ, h]
theorem iter_run (s : Nat → τ) (r : ρ) : ∀ (n i k : Nat), n < k → (∀ j, j < n → f (s (i + j)) = some (.inl (s (i + j + 1)))) → f (s (i + n)) = some (.inr r) → P.iter k f (s i) = some r := by
  intro n
  induction n with
  | zero => intro i k hk _ he; exact iter_done (by omega) (by simpa using he)
  | succ n ih =>
    intro i k hk hs he
    rw [iter_step (x := s i) (y := s (i + 1)) (by omega) (by simpa using hs 0 (by omega))]
    refine ih (i + 1) (k - 1) (by omega) (fun j hj => ?_) (by rw [show i + 1 + n = i + (n + 1) by omega]; exact he)
    have := hs (j + 1) (by omega)
    rw [show i + 1 + j = i + (j + 1) by omega]
    exact this
theorem iter_find {f : Int → Option (Int ⊕ ρ)} {n : Nat} {e : ρ} (g : Nat → Option ρ) (hs : ∀ i : Nat, i < n → f (i : Int) = some (match g i with
    | none => .inl ((i + 1 : Nat) : Int)
    | some r => .inr r)) (he : f (n : Int) = some (.inr e)) : ∀ (d i k : Nat), i + d = n → d < k → P.iter k f (i : Int) = some (((List.range' i d).findSome? g).getD e) := by
  intro d
  induction d with
  | zero =>
    intro i k hi hk
    obtain rfl : i = n := by omega
    exact iter_done (by omega) he
  | succ d ih =>
    intro i k hi hk
    have h := hs i (by omega)
    rw [List.range'_succ, List.findSome?_cons]
    cases q : g i with
    | none =>
      rw [q] at h
      simp only at h ⊢
      rw [iter_step (by omega) h]
      exact ih (i + 1) (k - 1) (by omega) (by omega)
    | some r =>
      rw [q] at h
      simp only at h
      rw [iter_done (by omega) h]
      rfl
theorem iter_find0 {f : Int → Option (Int ⊕ ρ)} {n : Nat} {e : ρ} (g : Nat → Option ρ) (k : Nat) (hs : ∀ i : Nat, i < n → f (i : Int) = some (match g i with
    | none => .inl ((i + 1 : Nat) : Int)
    | some r => .inr r)) (he : f (n : Int) = some (.inr e)) (hk : n < k) : P.iter k f 0 = some (((List.range n).findSome? g).getD e) := by
  have := iter_find g hs he n 0 k (by omega) hk
  rw [List.range_eq_range']
  exact this
theorem iter_all {f : Int → Option (Int ⊕ ρ)} {n : Nat} {e r : ρ} (p : Nat → Prop) [DecidablePred p] (k : Nat) (hs : ∀ i : Nat, i < n → f (i : Int) = some (if p i then .inl ((i + 1 : Nat) : Int) else .inr r)) (he : f (n : Int) = some (.inr e)) (hk : n < k) :
    P.iter k f 0 = some (if ∀ i, i < n → p i then e else r) := by
  rw [iter_find0 (n := n) (e := e) (fun i => if p i then none else some r) k (fun i hi => by rw [hs i hi]; by_cases h : p i <;> simp [h]) he hk]
  by_cases h : ∀ i, i < n → p i
  · rw [if_pos h]
    have : (List.range n).findSome? (fun i => if p i then none else some r) = none := by
      rw [List.findSome?_eq_none_iff]
      intro i hi
      simp [h i (List.mem_range.1 hi)]
    rw [this]; rfl
  · rw [if_neg h]
    have hh : ∃ i, i < n ∧ ¬ p i := by
      apply Classical.byContradiction
      intro q
      exact h fun i hi => Classical.byContradiction fun z => q ⟨i, hi, z⟩
    obtain ⟨i, hi, hp⟩ := hh
    have : ∃ y, (List.range n).findSome? (fun i => if p i then none else some r) = some y := by
      rw [← Option.isSome_iff_exists, List.findSome?_isSome_iff]
      exact ⟨i, List.mem_range.2 hi, by simp [hp]⟩
    obtain ⟨y, hy⟩ := this
    rw [hy]
    obtain ⟨j, _, hj⟩ := List.exists_of_findSome?_eq_some hy
    by_cases q : p j
    · simp [q] at hj
    · simp [q] at hj; simp [hj]
end
theorem ieq_iff {x y : Int} : P.ieq x y = true ↔ x = y := by simp [P.ieq]
theorem ieq_eq (x y : Int) : P.ieq x y = decide (x = y) := by rw [Bool.eq_iff_iff]; simp [P.ieq]
theorem ilt_iff {x y : Int} : P.ilt x y = true ↔ x < y := by simp [P.ilt]
theorem ile_iff {x y : Int} : P.ile x y = true ↔ x ≤ y := by simp [P.ile]
theorem inb_iff {i n : Int} : P.inb i n = true ↔ 0 ≤ i ∧ i < n := by simp [P.inb]
theorem wrap_i64 {x : Int} (h0 : -9223372036854775808 ≤ x) (h1 : x < 9223372036854775808) : P.wrap .i64 x = x := by
  show IntKind.i64.wrap x = x
  simp only [IntKind.wrap, IntKind.bits, IntKind.signed]
  simp
  omega
theorem wrap_nat {n : Nat} (h : n < 9223372036854775808) : P.wrap .i64 (n : Int) = n := wrap_i64 (by omega) (by omega)
theorem wrap_succ {n : Nat} (h : n + 1 < 9223372036854775808) : P.wrap .i64 (P.add (n : Int) 1) = ((n + 1 : Nat) : Int) := by
  rw [wrap_i64 (by simp [P.add]; omega) (by simp [P.add]; omega)]; simp [P.add]
theorem wrap_u64 {x : Int} (h0 : 0 ≤ x) (h1 : x < 18446744073709551616) : P.wrap .u64 x = x := by
  show IntKind.u64.wrap x = x
  simp only [IntKind.wrap, IntKind.bits, IntKind.signed]
  simp
  omega
theorem wrap_pred {n : Nat} (h0 : 0 < n) (h : n < 9223372036854775808) : P.wrap .i64 (P.sub (n : Int) 1) = ((n - 1 : Nat) : Int) := by
  rw [wrap_i64 (by simp [P.sub]; omega) (by simp [P.sub]; omega)]; simp [P.sub]; omega
theorem and_iff {a b : Bool} : P.and a b = true ↔ a = true ∧ b = true := by simp [P.and]
theorem cut_iff {l u n : Int} : P.cut l u n = true ↔ 0 ≤ l ∧ l ≤ u ∧ u ≤ n := by simp [P.cut, and_assoc]
theorem room_iff {n : Int} {b : Nat} : P.room n b = true ↔ n.toNat * b ≤ 140737488355328 := by simp [P.room]
theorem room_nat {a b n : Nat} : P.room (P.add (a : Int) (b : Int)) n = true ↔ (a + b) * n ≤ 140737488355328 := by
  rw [room_iff]
  have : (P.add (a : Int) (b : Int)).toNat = a + b := by simp [P.add]; omega
  rw [this]
theorem get_nat {α : Type} (l : List α) (i : Nat) (d : α) : P.get l (i : Int) d = l.getD i d := by simp [P.get]
theorem len_eq {α : Type} (l : List α) : P.len l = (l.length : Int) := rfl
def ltS (a b : ByteArray) : Prop := a.data.toList < b.data.toList
instance (a b : ByteArray) : Decidable (ltS a b) := inferInstanceAs (Decidable (a.data.toList < b.data.toList))
theorem ba_ext {a b : ByteArray} (h : a.data.toList = b.data.toList) : a = b := by
  cases a; cases b; simp at h; simp [h]
theorem bytesLess_eq : ∀ (x y : List UInt8), Op.bytesLess x y = decide (x < y)
  | [], [] => by simp [Op.bytesLess]
  | _ :: _, [] => by simp [Op.bytesLess]
  | [], _ :: _ => by simp [Op.bytesLess]
  | a :: x, b :: y => by
    rw [Op.bytesLess, bytesLess_eq x y]
    simp only [List.cons_lt_cons_iff]
    by_cases h1 : a < b <;> by_cases h2 : a = b <;> by_cases h3 : x < y <;> simp [h1, h2, h3]
theorem slt_iff {a b : ByteArray} : P.slt a b = true ↔ ltS a b := by
  unfold P.slt ltS
  rw [bytesLess_eq, ByteArray.toList_eq, ByteArray.toList_eq]
  simp
theorem seq_iff {a b : ByteArray} : P.seq a b = true ↔ a = b := by
  unfold P.seq
  rw [ByteArray.toList_eq, ByteArray.toList_eq]
  simp only [beq_iff_eq]
  exact ⟨ba_ext, fun h => by rw [h]⟩
theorem ltS_irrefl (a : ByteArray) : ¬ ltS a a := List.lt_irrefl _
theorem ltS_trans {a b c : ByteArray} (h1 : ltS a b) (h2 : ltS b c) : ltS a c := List.lt_trans h1 h2
theorem cmp_spec : ∀ (x y : List UInt8), (Lib.compareBytes x y < 0 ↔ x < y) ∧ (Lib.compareBytes x y = 0 ↔ x = y) ∧ -1 ≤ Lib.compareBytes x y ∧ Lib.compareBytes x y ≤ 1
  | [], [] => by simp [Lib.compareBytes]
  | [], _ :: _ => by simp [Lib.compareBytes]
  | _ :: _, [] => by simp [Lib.compareBytes]
  | a :: x, b :: y => by
    have ih := cmp_spec x y
    simp only [Lib.compareBytes, List.cons_lt_cons_iff, List.cons.injEq]
    by_cases h1 : a < b
    · have : a ≠ b := fun h => by subst h; exact absurd h1 (by simp)
      simp [h1, this]
    · by_cases h2 : b < a
      · have : a ≠ b := fun h => by subst h; exact absurd h2 (by simp)
        simp [h1, h2, this]
      · have : a = b := UInt8.le_antisymm (UInt8.not_lt.1 h2) (UInt8.not_lt.1 h1)
        subst this
        simp only [h1, if_false, true_and, false_or]
        exact ih
def cmpS (a b : ByteArray) : Int := Lib.compareBytes a.data.toList b.data.toList
theorem cmpS_lt {a b : ByteArray} : cmpS a b < 0 ↔ ltS a b := (cmp_spec _ _).1
theorem cmpS_eq {a b : ByteArray} : cmpS a b = 0 ↔ a = b := (cmp_spec _ _).2.1.trans ⟨ba_ext, fun h => by rw [h]⟩
end Go.PL
end
section
namespace Go.PL.Sv
variable {K : Type} [DecidableEq K]
structure St (K : Type) where
  out : K → Option Bool
  on : K → List K
  work : List K
def up {α : Type} (f : K → α) (k : K) (v : α) : K → α := fun x => if x = k then v else f x
theorem up_self {α : Type} (f : K → α) (k : K) (v : α) : up f k v k = v := by simp [up]
theorem up_ne {α : Type} (f : K → α) {k x : K} (v : α) (h : x ≠ k) : up f k v x = f x := by simp [up, h]
def ask1 (k : K) (s : St K) (o : K) : St K :=
  { out := if s.out o = none then up s.out o (some true) else s.out
    on := up s.on o (s.on o ++ [k])
    work := if s.out o = none then s.work ++ [o] else s.work }
def ans (s : St K) (o : K) : Bool := (s.out o).getD true
theorem ask1_ans (k : K) (s : St K) (o : K) : ans (ask1 k s o) = ans s := by
  funext x
  simp only [ans, ask1]
  split
  · rename_i h
    by_cases e : x = o
    · subst e; rw [up_self, h]; rfl
    · rw [up_ne _ _ e]
  · rfl
def asks (k : K) (os : List K) (s : St K) : St K := os.foldl (ask1 k) s
theorem asks_ans (k : K) : ∀ (os : List K) (s : St K), ans (asks k os s) = ans s
  | [], _ => rfl
  | o :: os, s => by
    show ans (asks k os (ask1 k s o)) = ans s
    rw [asks_ans k os, ask1_ans]
variable (asked : K → List K) (rule : K → (K → Bool) → Bool)
def step (s : St K) (k : K) (w : List K) : St K :=
  if s.out k = some true then
    let s1 := asks k (asked k) { s with work := w }
    if rule k (ans s) = true then s1 else { out := up s1.out k (some false), on := up s1.on k [], work := s1.work ++ s1.on k }
  else { s with work := w }
def Holds (T : K → Prop) : Prop := ∀ k, T k → ∀ f : K → Bool, (∀ o, T o → f o = true) → rule k f = true
def Gfp (k : K) : Prop := ∃ T : K → Prop, T k ∧ Holds rule T
theorem gfp_holds (mono : ∀ k (f g : K → Bool), (∀ o ∈ asked k, f o = true → g o = true) → rule k f = true → rule k g = true) : Holds rule (Gfp rule) := by
  rintro k ⟨T, hk, hT⟩ f hf
  exact hT k hk f fun o ho => hf o ⟨T, ho, hT⟩
structure Inv (U : List K) (start : K) (ps : List K) (s : St K) : Prop where
  dom : ∀ k, s.out k ≠ none → k ∈ U
  good : ∀ k, s.out k = some true → k ∈ s.work ∨ ((∀ o ∈ asked k, s.out o ≠ none ∧ (s.out o = some true → k ∈ s.on o)) ∧ rule k (ans s) = true)
  bad : ∀ k, s.out k = some false → ¬ Gfp rule k
  st : s.out start ≠ none
  cw : ∀ k, s.work.count k + ps.count k ≤ 2 ^ ((asked k).countP fun o => s.out o = some false)
  co : ∀ k o, (s.on o).count k ≤ ps.count k * (asked k).count o
  new : ∀ k, s.out k = none → k ∉ s.work ∧ k ∉ ps
  psU : ∀ k ∈ ps, k ∈ U
theorem start_inv {U : List K} {start : K} (hs : start ∈ U) : Inv asked rule U start [] ⟨up (fun _ => none) start (some true), fun _ => [], [start]⟩ := by
  refine ⟨fun k hk => ?_, fun k hk => ?_, fun k hk => ?_, by simp [up_self], fun k => ?_, fun k o => by simp, fun k hk => ?_, by simp⟩
  · by_cases e : k = start
    · subst e; exact hs
    · simp [up_ne _ _ e] at hk
  · by_cases e : k = start
    · subst e; exact .inl (by simp)
    · simp [up_ne _ _ e] at hk
  · by_cases e : k = start
    · subst e; simp [up_self] at hk
    · simp [up_ne _ _ e] at hk
  · have : 1 ≤ 2 ^ ((asked k).countP fun o => up (fun _ => none) start (some true) o = some false) := Nat.one_le_two_pow
    have h2 : [start].count k ≤ 1 := by
      rw [List.count_singleton]; split <;> omega
    simp only [List.count_nil, Nat.add_zero]
    omega
  · by_cases e : k = start
    · subst e; simp [up_self] at hk
    · exact ⟨by simp [e], by simp⟩
theorem ask1_out {k : K} {s : St K} {o x : K} : (ask1 k s o).out x = if x = o then some ((s.out o).getD true) else s.out x := by
  simp only [ask1]
  by_cases e : x = o
  · subst e
    rw [if_pos rfl]
    split
    · rename_i h; rw [up_self, h]; rfl
    · rename_i h
      cases q : s.out x with
      | none => exact absurd q h
      | some b => rfl
  · rw [if_neg e]
    split
    · rw [up_ne _ _ e]
    · rfl
structure Mid (U : List K) (start : K) (ps : List K) (k : K) (s0 : St K) (done : List K) (s : St K) : Prop where
  dom : ∀ x, s.out x ≠ none → x ∈ U
  old : ∀ x, s0.out x ≠ none → s.out x = s0.out x
  nw : ∀ x, s0.out x = none → s.out x = none ∨ (s.out x = some true ∧ x ∈ s.work)
  sub : ∀ x, x ∈ s0.work → x ∈ s.work
  onsub : ∀ x o, x ∈ s0.on o → x ∈ s.on o
  dn : ∀ o ∈ done, s.out o ≠ none ∧ k ∈ s.on o
  cw : ∀ x, s.work.count x = s0.work.count x + (if s0.out x = none ∧ s.out x ≠ none then 1 else 0)
  co : ∀ x o, (s.on o).count x = (s0.on o).count x + (if x = k then done.count o else 0)
  none : ∀ x, s.out x = none → x ∉ s.work
theorem mid_start {U : List K} {start : K} {ps : List K} {k : K} {s0 : St K} (hd : ∀ x, s0.out x ≠ none → x ∈ U) (hn : ∀ x, s0.out x = none → x ∉ s0.work) : Mid U start ps k s0 [] s0 :=
  ⟨hd, fun _ _ => rfl, fun x h => .inl h, fun _ h => h, fun _ _ h => h, by simp, fun x => by
    have : ¬ (s0.out x = none ∧ s0.out x ≠ none) := fun h => h.2 h.1
    simp [this], fun x o => by simp, hn⟩
theorem mid_step {U : List K} {start : K} {ps : List K} {k : K} {s0 s : St K} {done : List K} (m : Mid U start ps k s0 done s) {o : K} (ho : o ∈ U) : Mid U start ps k s0 (done ++ [o]) (ask1 k s o) := by
  have out : ∀ x, (ask1 k s o).out x = if x = o then some ((s.out o).getD true) else s.out x := fun x => ask1_out
  have work : (ask1 k s o).work = if s.out o = none then s.work ++ [o] else s.work := rfl
  have on : ∀ y, (ask1 k s o).on y = if y = o then s.on o ++ [k] else s.on y := fun y => by
    show up s.on o (s.on o ++ [k]) y = _
    by_cases e : y = o
    · subst e; rw [up_self, if_pos rfl]
    · rw [up_ne _ _ e, if_neg e]
  refine ⟨fun x hx => ?_, fun x hx => ?_, fun x hx => ?_, fun x hx => ?_, fun x y hx => ?_, fun x hx => ?_, fun x => ?_, fun x y => ?_, fun x hx => ?_⟩
  · rw [out] at hx
    by_cases e : x = o
    · subst e; exact ho
    · rw [if_neg e] at hx; exact m.dom x hx
  · rw [out]
    by_cases e : x = o
    · subst e
      rw [if_pos rfl]
      have := m.old x hx
      rw [this]
      cases q : s0.out x with
      | none => exact absurd q hx
      | some b => rfl
    · rw [if_neg e]; exact m.old x hx
  · rw [out, work]
    by_cases e : x = o
    · subst e
      rw [if_pos rfl]
      rcases m.nw x hx with h | ⟨h1, h2⟩
      · rw [h]; exact .inr ⟨rfl, by simp⟩
      · rw [h1]; exact .inr ⟨rfl, by simpa using h2⟩
    · rw [if_neg e]
      rcases m.nw x hx with h | ⟨h1, h2⟩
      · exact .inl h
      · refine .inr ⟨h1, ?_⟩
        split
        · exact List.mem_append_left _ h2
        · exact h2
  · rw [work]
    have := m.sub x hx
    split
    · exact List.mem_append_left _ this
    · exact this
  · rw [on]
    have := m.onsub x y hx
    split
    · rename_i e; subst e; exact List.mem_append_left _ this
    · exact this
  · rw [out, on]
    by_cases e : x = o
    · subst e; simp
    · rw [if_neg e, if_neg e]
      rcases List.mem_append.1 hx with h | h
      · exact m.dn x h
      · exact absurd (by simpa using h) e
  · rw [work, out]
    have h := m.cw x
    by_cases q : s.out o = none
    · rw [if_pos q, List.count_append, h]
      by_cases e : x = o
      · subst e
        have hq : s0.out x = none := by
          cases z : s0.out x with
          | none => rfl
          | some b => have := m.old x (by rw [z]; simp); rw [q, z] at this; cases this
        simp [hq, q]
      · have : [o].count x = 0 := by rw [List.count_singleton, if_neg (by simpa using fun z => e z.symm)]
        rw [this, if_neg e, Nat.add_zero]
    · rw [if_neg q, h]
      by_cases e : x = o
      · subst e
        rw [if_pos rfl]
        simp [q]
      · rw [if_neg e]
  · rw [on]
    have h := m.co x y
    by_cases e : y = o
    · subst e
      rw [if_pos rfl, List.count_append, h, List.count_append]
      by_cases e2 : x = k
      · subst e2; simp [Nat.add_assoc]
      · have : [k].count x = 0 := by rw [List.count_singleton, if_neg (by simpa using fun z => e2 z.symm)]
        simp [e2, this]
    · rw [if_neg e, h, List.count_append]
      have : [o].count y = 0 := by rw [List.count_singleton, if_neg (by simpa using fun z => e z.symm)]
      rw [this, Nat.add_zero]
  · rw [out] at hx
    rw [work]
    by_cases e : x = o
    · rw [if_pos e] at hx; cases hx
    · rw [if_neg e] at hx
      have := m.none x hx
      split
      · intro h
        rcases List.mem_append.1 h with h | h
        · exact this h
        · exact e (by simpa using h)
      · exact this
theorem mid_all {U : List K} {start : K} {ps : List K} {k : K} {s0 : St K} : ∀ (os done : List K) (s : St K), (∀ o ∈ os, o ∈ U) → Mid U start ps k s0 done s → Mid U start ps k s0 (done ++ os) (asks k os s)
  | [], done, s, _, m => by rw [List.append_nil]; exact m
  | o :: os, done, s, h, m => by
    have := mid_all os (done ++ [o]) (ask1 k s o) (fun x hx => h x (List.mem_cons_of_mem _ hx)) (mid_step m (h o (List.mem_cons_self ..)))
    rw [List.append_assoc] at this
    exact this
theorem two_pow_add (x c : Nat) : 2 ^ x + 2 ^ x * c ≤ 2 ^ (x + c) := by
  induction c with
  | zero => simp
  | succ c ih =>
    rw [← Nat.add_assoc, Nat.pow_succ, Nat.mul_succ]
    have : 2 ^ x ≤ 2 ^ (x + c) := Nat.pow_le_pow_right (by omega) (by omega)
    omega
variable {asked rule}
theorem step_inv (mono : ∀ k (f g : K → Bool), (∀ o ∈ asked k, f o = true → g o = true) → rule k f = true → rule k g = true) {U : List K} {start : K} (hU : ∀ k ∈ U, ∀ o ∈ asked k, o ∈ U) {ps : List K} {s : St K} {k : K} {w : List K} (hw : s.work = w ++ [k]) (I : Inv asked rule U start ps s) :
    Inv asked rule U start (k :: ps) (step asked rule s k w) := by
  have hkd : s.out k ≠ none := fun h => (I.new k h).1 (by rw [hw]; simp)
  have hkU := I.dom k hkd
  have cnt : ∀ x, s.work.count x = w.count x + if x = k then 1 else 0 := fun x => by
    rw [hw, List.count_append, List.count_singleton]
    congr 1
    by_cases e : x = k
    · subst e; simp
    · rw [if_neg e, if_neg (by simpa using fun z => e z.symm)]
  have pcnt : ∀ x, (k :: ps).count x = ps.count x + if x = k then 1 else 0 := fun x => by
    rw [List.count_cons]
    congr 1
    by_cases e : x = k
    · subst e; simp
    · rw [if_neg e, if_neg (by simpa using fun z => e z.symm)]
  have pU : ∀ x ∈ k :: ps, x ∈ U := fun x hx => by
    rcases List.mem_cons.1 hx with rfl | h
    · exact hkU
    · exact I.psU x h
  unfold step
  by_cases hk : s.out k = some true
  case neg =>
    rw [if_neg hk]
    refine ⟨I.dom, fun x hx => ?_, I.bad, I.st, fun x => ?_, fun x o => ?_, fun x hx => ?_, pU⟩
    · have hx : s.out x = some true := hx
      rcases I.good x hx with h | h
      · rw [hw] at h
        rcases List.mem_append.1 h with h | h
        · exact .inl h
        · have e : x = k := by simpa using h
          subst e; exact absurd hx hk
      · exact .inr h
    · have := I.cw x
      rw [cnt] at this
      rw [pcnt]
      show w.count x + _ ≤ 2 ^ ((asked x).countP fun o => s.out o = some false)
      omega
    · refine Nat.le_trans (I.co x o) (Nat.mul_le_mul_right _ ?_)
      rw [pcnt]; omega
    · have hx : s.out x = none := hx
      obtain ⟨h1, h2⟩ := I.new x hx
      refine ⟨fun h => h1 (by rw [hw]; exact List.mem_append_left _ h), fun h => ?_⟩
      rcases List.mem_cons.1 h with rfl | h
      · exact hkd hx
      · exact h2 h
  case pos =>
    rw [if_pos hk]
    have M := mid_all (start := start) (ps := ps) (k := k) (asked k) [] { s with work := w } (hU k hkU) (mid_start (s0 := { s with work := w }) I.dom fun x hx h => (I.new x hx).1 (by rw [hw]; exact List.mem_append_left _ h))
    rw [List.nil_append] at M
    have ans1 : ans (asks k (asked k) { s with work := w }) = ans s := asks_ans _ _ _
    generalize hs1 : asks k (asked k) { s with work := w } = s1 at M ans1
    -- what false is stays
    have fls : ∀ x, s1.out x = some false ↔ s.out x = some false := fun x => by
      constructor
      · intro h
        cases q : s.out x with
        | none =>
          rcases M.nw x q with z | ⟨z, _⟩
          · rw [z] at h; cases h
          · rw [z] at h; cases h
        | some b => have := M.old x (by show s.out x ≠ none; rw [q]; simp); rw [h] at this; rw [← q]; exact this.symm
      · intro h
        have := M.old x (by show s.out x ≠ none; rw [h]; simp)
        rw [this]; exact h
    have cP : ∀ x, ((asked x).countP fun o => s1.out o = some false) = (asked x).countP fun o => s.out o = some false := fun x => by
      congr 1; funext o; exact decide_eq_decide.2 (fls o)
    have co1 : ∀ x o, (s1.on o).count x ≤ (k :: ps).count x * (asked x).count o := fun x o => by
      rw [M.co x o, pcnt]
      have h := I.co x o
      by_cases e : x = k
      · subst e
        rw [if_pos rfl, if_pos rfl, Nat.add_mul, Nat.one_mul]
        exact Nat.add_le_add_right h _
      · rw [if_neg e, if_neg e, Nat.add_zero, Nat.add_zero]; exact h
    have cw1 : ∀ x, s1.work.count x + (k :: ps).count x ≤ 2 ^ ((asked x).countP fun o => s.out o = some false) := fun x => by
      rw [M.cw x, pcnt]
      show w.count x + _ + _ ≤ _
      have h := I.cw x
      rw [cnt] at h
      by_cases q : s.out x = none ∧ s1.out x ≠ none
      · rw [if_pos q]
        have hx : x ≠ k := fun e => by subst e; exact hkd q.1
        obtain ⟨n1, n2⟩ := I.new x q.1
        have c1 : w.count x = 0 := List.count_eq_zero.2 fun z => n1 (by rw [hw]; exact List.mem_append_left _ z)
        have c2 : ps.count x = 0 := List.count_eq_zero.2 n2
        have : 1 ≤ 2 ^ ((asked x).countP fun o => s.out o = some false) := Nat.one_le_two_pow
        rw [c1, c2, if_neg hx]
        omega
      · have q' : ¬ (s.out x = none ∧ s1.out x ≠ none) := q
        rw [if_neg q']
        omega
    have new1 : ∀ x, s1.out x = none → x ∉ s1.work ∧ x ∉ k :: ps := fun x hx => by
      have h0 : s.out x = none := by
        cases q : s.out x with
        | none => rfl
        | some b => have := M.old x (by show s.out x ≠ none; rw [q]; simp); rw [hx] at this; rw [← q]; exact this.symm
      refine ⟨M.none x hx, fun h => ?_⟩
      rcases List.mem_cons.1 h with rfl | h
      · exact hkd h0
      · exact (I.new x h0).2 h
    have st1 : s1.out start ≠ none := fun h => by
      have := M.old start I.st
      rw [h] at this
      exact I.st this.symm
    have k1 : s1.out k = some true := by rw [M.old k hkd]; exact hk
    -- those that were right stay so
    have keep : ∀ x, x ≠ k → s1.out x = some true → x ∈ s1.work ∨ ((∀ o ∈ asked x, s1.out o ≠ none ∧ (s1.out o = some true → x ∈ s1.on o)) ∧ rule x (ans s1) = true) := fun x e hx => by
      cases q : s.out x with
      | none =>
        rcases M.nw x q with z | ⟨_, z⟩
        · rw [z] at hx; cases hx
        · exact .inl z
      | some b =>
        have hb := M.old x (by show s.out x ≠ none; rw [q]; simp)
        have hx0 : s.out x = some true := by rw [← hx]; exact hb.symm
        rcases I.good x hx0 with h | ⟨h1, h2⟩
        · rw [hw] at h
          rcases List.mem_append.1 h with h | h
          · exact .inl (M.sub x h)
          · exact absurd (by simpa using h) e
        · refine .inr ⟨fun o ho => ?_, by rw [ans1]; exact h2⟩
          obtain ⟨g1, g2⟩ := h1 o ho
          have := M.old o g1
          rw [this]
          exact ⟨g1, fun z => M.onsub x o (g2 z)⟩
    by_cases hr : rule k (ans s) = true
    · simp only [hr, if_true]
      refine ⟨M.dom, fun x hx => ?_, fun x hx => I.bad x ((fls x).1 hx), st1, fun x => by rw [cP]; exact cw1 x, co1, new1, pU⟩
      by_cases e : x = k
      · subst e
        exact .inr ⟨fun o ho => ⟨(M.dn o ho).1, fun _ => (M.dn o ho).2⟩, by rw [ans1]; exact hr⟩
      · exact keep x e hx
    · simp only [hr, Bool.false_eq_true, if_false]
      refine ⟨fun x hx => ?_, fun x hx => ?_, fun x hx => ?_, ?_, fun x => ?_, fun x o => ?_, fun x hx => ?_, pU⟩
      · by_cases e : x = k
        · subst e; exact hkU
        · exact M.dom x (by simpa [up, e] using hx)
      · by_cases e : x = k
        · subst e; simp [up] at hx
        · have hx : s1.out x = some true := by simpa [up, e] using hx
          rcases keep x e hx with h | ⟨h1, h2⟩
          · exact .inl (List.mem_append_left _ h)
          · by_cases hka : k ∈ asked x
            · exact .inl (List.mem_append_right _ ((h1 k hka).2 k1))
            · refine .inr ⟨fun o ho => ?_, mono x (ans s1) _ (fun o ho h => ?_) h2⟩
              · have ne : o ≠ k := fun z => hka (z ▸ ho)
                obtain ⟨g1, g2⟩ := h1 o ho
                simp only [up, if_neg ne]
                exact ⟨g1, g2⟩
              · have ne : o ≠ k := fun z => hka (z ▸ ho)
                simp only [ans, up, if_neg ne]
                exact h
      · by_cases e : x = k
        · subst e
          rintro ⟨T, hT1, hT⟩
          refine hr (hT x hT1 (ans s) fun o ho => ?_)
          cases q : s.out o with
          | none => simp [ans, q]
          | some b => cases b with
            | true => simp [ans, q]
            | false => exact absurd ⟨T, ho, hT⟩ (I.bad o q)
        · have hx : s1.out x = some false := by simpa [up, e] using hx
          exact I.bad x ((fls x).1 hx)
      · by_cases e : start = k
        · subst e; simp [up]
        · simp only [up, if_neg e]; exact st1
      · -- the count
        have hc : ((asked x).countP fun o => up s1.out k (some false) o = some false) = ((asked x).countP fun o => s.out o = some false) + (asked x).count k := by
          generalize asked x = l
          induction l with
          | nil => simp
          | cons o l ih =>
            rw [List.countP_cons, List.countP_cons, List.count_cons, ih]
            by_cases e : o = k
            · subst e
              simp only [up, hk, if_true, beq_self_eq_true, decide_true]
              simp
              omega
            · simp only [up, if_neg e, fls o]
              have : (o == k) = false := by simpa using e
              rw [this]
              simp
              omega
        show (s1.work ++ s1.on k).count x + _ ≤ _
        rw [hc, List.count_append]
        have h1 := cw1 x
        have h2 : (s1.on k).count x ≤ 2 ^ ((asked x).countP fun o => s.out o = some false) * (asked x).count k := Nat.le_trans (co1 x k) (Nat.mul_le_mul_right _ (by omega))
        have h3 := two_pow_add ((asked x).countP fun o => s.out o = some false) ((asked x).count k)
        omega
      · by_cases e : o = k
        · subst e; simp [up]
        · simp only [up, if_neg e]; exact co1 x o
      · by_cases e : x = k
        · subst e; simp [up] at hx
        · have hx : s1.out x = none := by simpa [up, e] using hx
          obtain ⟨g1, g2⟩ := new1 x hx
          refine ⟨fun h => ?_, g2⟩
          rcases List.mem_append.1 h with h | h
          · exact g1 h
          · have c0 : (k :: ps).count x = 0 := List.count_eq_zero.2 g2
            have := co1 x k
            rw [c0, Nat.zero_mul] at this
            have : 0 < (s1.on k).count x := List.count_pos_iff.2 h
            omega
theorem length_le {U : List K} {c : Nat} : ∀ {l : List K}, (∀ x ∈ l, x ∈ U) → (∀ x, l.count x ≤ c) → l.length ≤ U.length * c := by
  induction U with
  | nil => intro l h _; cases l with
    | nil => simp
    | cons x l => exact absurd (h x (by simp)) (by simp)
  | cons u U ih =>
    intro l h hc
    have h1 : l.length = l.count u + (l.filter fun x => x ≠ u).length := by
      clear h hc
      induction l with
      | nil => rfl
      | cons x l ih =>
        rw [List.length_cons, List.count_cons, ih]
        by_cases e : x = u
        · subst e
          rw [List.filter_cons_of_neg (by simp)]
          simp; omega
        · have q : (x == u) = false := by simpa using e
          rw [List.filter_cons_of_pos (by simpa using e), q, List.length_cons]
          simp; omega
    have h2 : (l.filter fun x => x ≠ u).length ≤ U.length * c := by
      apply ih
      · intro x hx
        obtain ⟨g1, g2⟩ := List.mem_filter.1 hx
        have g2 : x ≠ u := by simpa using g2
        rcases List.mem_cons.1 (h x g1) with e | e
        · exact absurd e g2
        · exact e
      · intro x
        exact Nat.le_trans (List.Sublist.count_le x List.filter_sublist) (hc x)
    have := hc u
    rw [List.length_cons, Nat.add_mul, Nat.one_mul]
    omega
theorem Inv.ps_len {U : List K} {start : K} {ps : List K} {s : St K} (I : Inv asked rule U start ps s) {m : Nat} (hm : ∀ k, (asked k).length ≤ m) : ps.length ≤ U.length * 2 ^ m :=
  length_le I.psU fun x => Nat.le_trans (Nat.le_trans (Nat.le_add_left _ _) (I.cw x)) (Nat.pow_le_pow_right (by omega) (Nat.le_trans List.countP_le_length (hm x)))
theorem Inv.work_len {U : List K} {start : K} {ps : List K} {s : St K} (I : Inv asked rule U start ps s) {m : Nat} (hm : ∀ k, (asked k).length ≤ m) : s.work.length ≤ U.length * 2 ^ m :=
  length_le (fun x hx => I.dom x fun h => (I.new x h).1 hx) fun x => Nat.le_trans (Nat.le_trans (Nat.le_add_right _ _) (I.cw x)) (Nat.pow_le_pow_right (by omega) (Nat.le_trans List.countP_le_length (hm x)))
theorem Inv.on_len {U : List K} {start : K} {ps : List K} {s : St K} (I : Inv asked rule U start ps s) {m : Nat} (hm : ∀ k, (asked k).length ≤ m) (o : K) : (s.on o).length ≤ U.length * (2 ^ m * m) := by
  refine length_le (fun x hx => I.psU x ?_) fun x => Nat.le_trans (I.co x o) (Nat.mul_le_mul (Nat.le_trans (Nat.le_trans (Nat.le_add_left _ _) (I.cw x)) (Nat.pow_le_pow_right (by omega) (Nat.le_trans List.countP_le_length (hm x)))) (Nat.le_trans List.count_le_length (hm x)))
  have h1 : 0 < (s.on o).count x := List.count_pos_iff.2 hx
  have h2 := I.co x o
  apply List.count_pos_iff.1
  rcases Nat.eq_zero_or_pos (ps.count x) with z | z
  · rw [z, Nat.zero_mul] at h2; omega
  · exact z
theorem Inv.done (mono : ∀ k (f g : K → Bool), (∀ o ∈ asked k, f o = true → g o = true) → rule k f = true → rule k g = true) {U : List K} {start : K} {ps : List K} {s : St K} (I : Inv asked rule U start ps s) (hw : s.work = []) : s.out start = some true ↔ Gfp rule start := by
  constructor
  · intro h
    refine ⟨fun k => s.out k = some true, h, fun k hk f hf => ?_⟩
    rcases I.good k hk with z | ⟨h1, h2⟩
    · rw [hw] at z; cases z
    · refine mono k (ans s) f (fun o ho z => hf o ?_) h2
      obtain ⟨g1, _⟩ := h1 o ho
      cases q : s.out o with
      | none => exact absurd q g1
      | some b => rw [ans, q] at z; simpa using z
  · intro h
    cases q : s.out start with
    | none => exact absurd q I.st
    | some b => cases b with
      | true => rfl
      | false => exact absurd h (I.bad start q)
end Go.PL.Sv
end
section
namespace Go.PL.Sv
open Go.PG
variable {K : Type} [DecidableEq K] {f : K → K → Bool}
def outOf (f : K → K → Bool) (xs : List (K × Bool)) (k : K) : Option Bool := if P.mhas f xs k = true then some (P.mval f xs k false) else none
def onOf (f : K → K → Bool) (xs : List (K × Option (List K))) (k : K) : List K := (P.dget f xs k).getD []
def Tidy (xs : List (K × Option (List K))) : Prop := (xs.map Prod.fst).Nodup ∧ ∀ p ∈ xs, p.2 ≠ none
theorem out_nil : outOf f [] = fun _ => none := by funext k; simp [outOf, P.mhas]
theorem on_nil : onOf f [] = fun _ => [] := by funext k; simp [onOf, P.dget]
theorem tidy_nil : Tidy ([] : List (K × Option (List K))) := ⟨by simp, by simp⟩
theorem out_put (hf : ∀ x y, f x y = true ↔ x = y) (k : K) (v : Bool) : ∀ (xs : List (K × Bool)), outOf f (P.mput f xs k v) = up (outOf f xs) k (some v) := by
  have ff : ∀ {x y}, x ≠ y → f x y = false := fun {x y} h => by
    cases q : f x y with
    | false => rfl
    | true => exact absurd ((hf x y).1 q) h
  intro xs
  funext x
  induction xs with
  | nil =>
    by_cases e : x = k
    · subst e; simp [outOf, P.mput, P.mhas, P.mval, (hf x x).2 rfl, up]
    · simp [outOf, P.mput, P.mhas, ff e, up, e]
  | cons p xs ih =>
    simp only [P.mput]
    cases q : f k p.1 with
    | true =>
      have hp := (hf k p.1).1 q
      by_cases e : x = k
      · subst e; simp [outOf, P.mhas, P.mval, (hf x x).2 rfl, up]
      · have e2 : f x p.1 = false := ff (by rw [← hp]; exact e)
        simp [outOf, P.mhas, P.mval, ff e, e2, up, e]
    | false =>
      cases q2 : f x p.1 with
      | true =>
        have hx := (hf x p.1).1 q2
        have e : x ≠ k := fun e => by rw [e] at q2; rw [q2] at q; cases q
        simp [outOf, P.mhas, P.mval, q2, up, e]
      | false =>
        have : outOf f (p :: P.mput f xs k v) x = outOf f (P.mput f xs k v) x := by simp [outOf, P.mhas, P.mval, q2]
        rw [this, ih]
        by_cases e : x = k
        · simp [up, e]
        · simp [up, e, outOf, P.mhas, P.mval, q2]
theorem val_of {xs : List (K × Bool)} : ∀ {k : K}, P.mval f xs k false = (outOf f xs k).getD false := by
  intro k
  unfold outOf
  induction xs with
  | nil => rfl
  | cons p xs ih =>
    cases q : f k p.1 with
    | true => simp [P.mval, P.mhas, q]
    | false => simpa [P.mval, P.mhas, q] using ih
theorem dget_some {xs : List (K × Option (List K))} (h : ∀ p ∈ xs, p.2 ≠ none) (k : K) : P.dget f xs k = some (onOf f xs k) := by
  unfold onOf
  induction xs with
  | nil => rfl
  | cons p xs ih =>
    simp only [P.dget]
    cases f k p.1 with
    | true =>
      cases q : p.2 with
      | none => exact absurd q (h p (List.mem_cons_self ..))
      | some l => rfl
    | false => exact ih fun q hq => h q (List.mem_cons_of_mem _ hq)
theorem put_keys (hf : ∀ x y, f x y = true ↔ x = y) {β : Type} (k : K) (v : β) : ∀ (xs : List (K × β)), (P.mput f xs k v).map Prod.fst = if k ∈ xs.map Prod.fst then xs.map Prod.fst else xs.map Prod.fst ++ [k] := by
  intro xs
  induction xs with
  | nil => rfl
  | cons p xs ih =>
    simp only [P.mput]
    cases q : f k p.1 with
    | true =>
      have hp := (hf k p.1).1 q
      simp [hp]
    | false =>
      have hp : k ≠ p.1 := fun e => by rw [(hf k p.1).2 e] at q; cases q
      simp only [List.map_cons, ih, List.mem_cons, hp, false_or]
      split <;> simp
theorem take_keys (k : K) : ∀ (xs : List (K × Option (List K))), (P.dtake f xs k).map Prod.fst = xs.map Prod.fst := by
  intro xs
  induction xs with
  | nil => rfl
  | cons p xs ih =>
    simp only [P.dtake]
    cases f k p.1 with
    | true => rfl
    | false => simp [ih]
theorem put_take (hf : ∀ x y, f x y = true ↔ x = y) (k : K) (l : List K) : ∀ {xs : List (K × Option (List K))}, Tidy xs → Tidy (P.mput f (P.dtake f xs k) k (some l)) ∧ onOf f (P.mput f (P.dtake f xs k) k (some l)) = up (onOf f xs) k l := by
  have ff : ∀ {x y}, x ≠ y → f x y = false := fun {x y} h => by
    cases q : f x y with
    | false => rfl
    | true => exact absurd ((hf x y).1 q) h
  intro xs h
  refine ⟨⟨?_, ?_⟩, ?_⟩
  · rw [put_keys hf, take_keys]
    split
    · exact h.1
    · rename_i q
      exact List.nodup_append.2 ⟨h.1, by simp, fun a ha b hb => by
        have : b = k := by simpa using hb
        subst this; exact fun e => q (e ▸ ha)⟩
  · have := h.2
    clear h
    induction xs with
    | nil => intro p hp; simp [P.dtake, P.mput] at hp; subst hp; simp
    | cons p xs ih =>
      simp only [P.dtake]
      cases q : f k p.1 with
      | true =>
        simp only [P.mput, q]
        intro r hr
        rcases List.mem_cons.1 hr with rfl | hr
        · simp
        · exact this r (List.mem_cons_of_mem _ hr)
      | false =>
        simp only [P.mput, q]
        intro r hr
        rcases List.mem_cons.1 hr with rfl | hr
        · exact this r (List.mem_cons_self ..)
        · exact ih (fun s hs => this s (List.mem_cons_of_mem _ hs)) r hr
  · funext x
    have := h.2
    clear h
    induction xs with
    | nil =>
      by_cases e : x = k
      · subst e; simp [onOf, P.dtake, P.mput, P.dget, (hf x x).2 rfl, up]
      · simp [onOf, P.dtake, P.mput, P.dget, ff e, up, e]
    | cons p xs ih =>
      simp only [P.dtake]
      cases q : f k p.1 with
      | true =>
        have hp := (hf k p.1).1 q
        simp only [P.mput, q]
        by_cases e : x = k
        · subst e; simp [onOf, P.dget, (hf x x).2 rfl, up]
        · have e2 : f x p.1 = false := ff (by rw [← hp]; exact e)
          simp [onOf, P.dget, ff e, e2, up, e]
      | false =>
        simp only [P.mput, q]
        cases q2 : f x p.1 with
        | true =>
          have hx := (hf x p.1).1 q2
          have e : x ≠ k := fun e => by rw [e] at q2; rw [q2] at q; cases q
          simp [onOf, P.dget, q2, up, e]
        | false =>
          have t : ∀ ys : List (K × Option (List K)), onOf f (p :: ys) x = onOf f ys x := fun ys => by simp [onOf, P.dget, q2]
          rw [t, ih fun r hr => this r (List.mem_cons_of_mem _ hr)]
          by_cases e : x = k
          · simp [up, e]
          · simp only [up, if_neg e]; rw [t]
theorem del_take (hf : ∀ x y, f x y = true ↔ x = y) (k : K) : ∀ {xs : List (K × Option (List K))}, Tidy xs → Tidy (P.mdel f (P.dtake f xs k) k) ∧ onOf f (P.mdel f (P.dtake f xs k) k) = up (onOf f xs) k [] := by
  have ff : ∀ {x y}, x ≠ y → f x y = false := fun {x y} h => by
    cases q : f x y with
    | false => rfl
    | true => exact absurd ((hf x y).1 q) h
  intro xs h
  induction xs with
  | nil => exact ⟨tidy_nil, by funext x; simp [onOf, P.dtake, P.mdel, P.dget, up]⟩
  | cons p xs ih =>
    obtain ⟨h1, h2⟩ := h
    rw [List.map_cons, List.nodup_cons] at h1
    have ht : Tidy xs := ⟨h1.2, fun q hq => h2 q (List.mem_cons_of_mem _ hq)⟩
    simp only [P.dtake]
    cases q : f k p.1 with
    | true =>
      have hp := (hf k p.1).1 q
      simp only [P.mdel, q]
      refine ⟨ht, ?_⟩
      funext x
      by_cases e : x = k
      · subst e
        simp only [up, if_true]
        have : ∀ ys : List (K × Option (List K)), x ∉ ys.map Prod.fst → onOf f ys x = [] := by
          intro ys
          induction ys with
          | nil => intro _; rfl
          | cons r ys ih2 =>
            intro hn
            simp only [List.map_cons, List.mem_cons, not_or] at hn
            have := ih2 hn.2
            simp only [onOf, P.dget, ff hn.1] at this ⊢
            exact this
        exact this xs (by rw [hp]; exact h1.1)
      · have e2 : f x p.1 = false := ff (by rw [← hp]; exact e)
        simp [up, e, onOf, P.dget, e2]
    | false =>
      simp only [P.mdel, q]
      obtain ⟨g1, g2⟩ := ih ht
      refine ⟨⟨?_, fun r hr => ?_⟩, ?_⟩
      · rw [List.map_cons, List.nodup_cons]
        refine ⟨fun z => h1.1 ?_, g1.1⟩
        obtain ⟨r, hr, hr2⟩ := List.mem_map.1 z
        have : ∀ (ys : List (K × Option (List K))) (r : K × Option (List K)), r ∈ P.mdel f ys k → r.1 ∈ ys.map Prod.fst := by
          intro ys
          induction ys with
          | nil => intro r hr; simp [P.mdel] at hr
          | cons s ys ih2 =>
            intro r hr
            simp only [P.mdel] at hr
            split at hr
            · exact List.mem_map.2 ⟨r, List.mem_cons_of_mem _ hr, rfl⟩
            · rcases List.mem_cons.1 hr with rfl | hr
              · simp
              · simp only [List.map_cons, List.mem_cons]; exact .inr (ih2 r hr)
        have := this _ r hr
        rw [take_keys] at this
        rw [← hr2]
        exact this
      · rcases List.mem_cons.1 hr with rfl | hr
        · exact h2 r (List.mem_cons_self ..)
        · exact g1.2 r hr
      · funext x
        cases q2 : f x p.1 with
        | true =>
          have hx := (hf x p.1).1 q2
          have e : x ≠ k := fun e => by rw [e] at q2; rw [q2] at q; cases q
          simp [onOf, P.dget, q2, up, e]
        | false =>
          have t : ∀ ys : List (K × Option (List K)), onOf f (p :: ys) x = onOf f ys x := fun ys => by simp [onOf, P.dget, q2]
          rw [t, g2]
          by_cases e : x = k
          · simp [up, e]
          · simp only [up, if_neg e]; rw [t]
end Go.PL.Sv
end
section
namespace Go.PL.Ty
open Go.PG Go.PL.Sv
abbrev Tf := ByteArray × Int
abbrev Tt := Int × List Tf × List Int
def at_ (t : List Tt) (x : Int) : Tt := P.get t x (0, [], [])
def fieldT : List Tf → ByteArray → Option Int
  | [], _ => none
  | f :: r, s => if f.1 = s then some f.2 else fieldT r s
def RuleP (t : List Tt) (R : Int × Int → Prop) (p : Int × Int) : Prop :=
  if (at_ t p.1).1 = 5 then ∀ e ∈ (at_ t p.1).2.2, R (e, p.2)
  else if (at_ t p.2).1 = 5 then ∃ e ∈ (at_ t p.2).2.2, R (p.1, e)
  else if (at_ t p.2).1 = 0 then True
  else if (at_ t p.1).1 ≠ (at_ t p.2).1 then False
  else ∀ f ∈ (at_ t p.2).2.1, ∃ k, fieldT (at_ t p.1).2.1 f.1 = some k ∧ R (k, f.2)
def fieldB (l : List Tf) (g : Int × Int → Bool) (f : Tf) : Bool := match fieldT l f.1 with
  | some k => g (k, f.2)
  | none => false
def ruleB (t : List Tt) (p : Int × Int) (g : Int × Int → Bool) : Bool :=
  if (at_ t p.1).1 = 5 then (at_ t p.1).2.2.all fun e => g (e, p.2)
  else if (at_ t p.2).1 = 5 then (at_ t p.2).2.2.any fun e => g (p.1, e)
  else if (at_ t p.2).1 = 0 then true
  else if (at_ t p.1).1 ≠ (at_ t p.2).1 then false
  else (at_ t p.2).2.1.all (fieldB (at_ t p.1).2.1 g)
def asked (t : List Tt) (p : Int × Int) : List (Int × Int) :=
  if (at_ t p.1).1 = 5 then (at_ t p.1).2.2.map fun e => (e, p.2)
  else if (at_ t p.2).1 = 5 then (at_ t p.2).2.2.map fun e => (p.1, e)
  else if (at_ t p.2).1 = 0 then []
  else if (at_ t p.1).1 ≠ (at_ t p.2).1 then []
  else (at_ t p.2).2.1.filterMap fun f => (fieldT (at_ t p.1).2.1 f.1).map fun k => (k, f.2)
theorem ruleB_iff {t : List Tt} {p : Int × Int} {g : Int × Int → Bool} : ruleB t p g = true ↔ RuleP t (fun q => g q = true) p := by
  unfold ruleB RuleP
  split
  · simp
  · split
    · simp
    · split
      · simp
      · split
        · simp
        · rw [List.all_eq_true]
          refine forall_congr' fun f => forall_congr' fun _ => ?_
          unfold fieldB
          cases fieldT (at_ t p.1).2.1 f.1 <;> simp
theorem RuleP.mono {t : List Tt} {R R' : Int × Int → Prop} {p : Int × Int} (h : ∀ o ∈ asked t p, R o → R' o) (hp : RuleP t R p) : RuleP t R' p := by
  unfold RuleP at hp ⊢
  unfold asked at h
  split at hp
  · rename_i c; rw [if_pos c] at h ⊢
    exact fun e he => h _ (List.mem_map.2 ⟨e, he, rfl⟩) (hp e he)
  · rename_i c; rw [if_neg c] at h ⊢
    split at hp
    · rename_i c; rw [if_pos c] at h ⊢
      obtain ⟨e, he, hp⟩ := hp
      exact ⟨e, he, h _ (List.mem_map.2 ⟨e, he, rfl⟩) hp⟩
    · rename_i c; rw [if_neg c] at h ⊢
      split at hp
      · rename_i c; rw [if_pos c]; trivial
      · rename_i c; rw [if_neg c] at h ⊢
        split at hp
        · exact hp.elim
        · rename_i c; rw [if_neg c] at h ⊢
          intro f hf
          obtain ⟨k, hk, hR⟩ := hp f hf
          exact ⟨k, hk, h _ (List.mem_filterMap.2 ⟨f, hf, by rw [hk]; rfl⟩) hR⟩
theorem rule_mono (t : List Tt) : ∀ k (f g : Int × Int → Bool), (∀ o ∈ asked t k, f o = true → g o = true) → ruleB t k f = true → ruleB t k g = true :=
  fun _ _ _ h hr => ruleB_iff.2 (RuleP.mono h (ruleB_iff.1 hr))
def Sub (t : List Tt) (a b : Int) : Prop := Gfp (ruleB t) (a, b)
open Classical in
theorem holds_iff {t : List Tt} {T : Int × Int → Prop} : Holds (ruleB t) T ↔ ∀ p, T p → RuleP t T p := by
  constructor
  · intro h p hp
    have := ruleB_iff.1 (h p hp (fun q => decide (T q)) fun o ho => by simpa using ho)
    exact this.mono fun o _ q => by simpa using q
  · intro h p hp f hf
    exact ruleB_iff.2 ((h p hp).mono fun o _ q => hf o q)
theorem sub_of {t : List Tt} {a b : Int} (T : Int × Int → Prop) (h : T (a, b)) (hT : ∀ p, T p → RuleP t T p) : Sub t a b := ⟨T, h, holds_iff.2 hT⟩
theorem sub_rule {t : List Tt} {a b : Int} (h : Sub t a b) : RuleP t (fun q => Sub t q.1 q.2) (a, b) :=
  holds_iff.1 (gfp_holds (asked t) (ruleB t) (rule_mono t)) (a, b) h
structure MayT (t : List Tt) : Prop where
  elem : ∀ (i : Nat) (x : Tt), t[i]? = some x → ∀ e ∈ x.2.2, 0 ≤ e ∧ e < (i : Int)
  fld : ∀ (i : Nat) (x : Tt), t[i]? = some x → ∀ f ∈ x.2.1, 0 ≤ f.2 ∧ f.2 < (t.length : Int)
  names : ∀ (i : Nat) (x : Tt), t[i]? = some x → (x.2.1.map Prod.fst).Nodup
  kind : ∀ (i : Nat) (x : Tt), t[i]? = some x → 0 ≤ x.1 ∧ x.1 ≤ 5 ∧ (x.1 ≠ 4 → x.2.1 = []) ∧ (x.1 ≠ 5 → x.2.2 = [])
theorem at_cases (t : List Tt) (x : Int) : (∃ i : Nat, (i : Int) = x ∧ t[i]? = some (at_ t x)) ∨ (∃ i : Nat, x.toNat = i ∧ t[i]? = some (at_ t x)) ∨ at_ t x = (0, [], []) := by
  unfold at_ P.get
  cases h : t[x.toNat]? with
  | none => exact .inr (.inr (by rw [List.getD_eq_getElem?_getD, h]; rfl))
  | some y => exact .inr (.inl ⟨x.toNat, rfl, by rw [List.getD_eq_getElem?_getD, h]; rfl⟩)
theorem at_pos {t : List Tt} {x : Int} (h : (at_ t x).1 ≠ 0) : t[x.toNat]? = some (at_ t x) := by
  rcases at_cases t x with ⟨i, e, q⟩ | ⟨i, e, q⟩ | q
  · rw [show x.toNat = i by omega]; exact q
  · rw [e]; exact q
  · rw [q] at h; exact absurd rfl h
theorem MayT.elem_lt {t : List Tt} (h : MayT t) {x e : Int} (k : (at_ t x).1 = 5) (he : e ∈ (at_ t x).2.2) : 0 ≤ e ∧ e.toNat < x.toNat := by
  have := h.elem _ _ (at_pos (by rw [k]; decide)) e he
  omega
theorem fieldT_mem {l : List Tf} {s : ByteArray} {k : Int} (h : fieldT l s = some k) : (s, k) ∈ l := by
  induction l with
  | nil => cases h
  | cons f l ih =>
    simp only [fieldT] at h
    split at h
    · rename_i e; injection h with h; subst h; subst e; simp
    · exact List.mem_cons_of_mem _ (ih h)
theorem fieldT_of {l : List Tf} (h : (l.map Prod.fst).Nodup) {f : Tf} (hf : f ∈ l) : fieldT l f.1 = some f.2 := by
  induction l with
  | nil => cases hf
  | cons g l ih =>
    rw [List.map_cons, List.nodup_cons] at h
    simp only [fieldT]
    rcases List.mem_cons.1 hf with rfl | hf
    · rw [if_pos rfl]
    · rw [if_neg (fun e => h.1 (List.mem_map.2 ⟨f, hf, e.symm⟩))]
      exact ih h.2 hf
inductive Under (t : List Tt) : Int → Int → Prop where
  | refl (x : Int) : Under t x x
  | step {x y e : Int} (k : (at_ t y).1 = 5) (he : e ∈ (at_ t y).2.2) (h : Under t x e) : Under t x y
theorem Under.trans {t : List Tt} {x y z : Int} (h : Under t x y) (g : Under t y z) : Under t x z := by
  induction g with
  | refl => exact h
  | step k he _ ih => exact .step k he ih
theorem sub_refl {t : List Tt} (h : MayT t) (a : Int) : Sub t a a := by
  refine sub_of (fun p => Under t p.1 p.2) (.refl a) fun ⟨x, y⟩ hu => ?_
  have hu : Under t x y := hu
  unfold RuleP
  by_cases k : (at_ t x).1 = 5
  · rw [if_pos k]
    exact fun e he => (Under.step k he (.refl e)).trans hu
  · rw [if_neg k]
    cases hu with
    | refl =>
      rw [if_neg k]
      by_cases k0 : (at_ t x).1 = 0
      · rw [if_pos k0]; trivial
      · rw [if_neg k0, if_neg (by simp)]
        exact fun f hf => ⟨f.2, fieldT_of (h.names _ _ (at_pos k0)) hf, .refl _⟩
    | step ky he hu => rw [if_pos ky]; exact ⟨_, he, hu⟩
theorem sub_trans {t : List Tt} (h : MayT t) {a b c : Int} (h1 : Sub t a b) (h2 : Sub t b c) : Sub t a c := by
  refine sub_of (fun p => ∃ y, Sub t p.1 y ∧ Sub t y p.2) ⟨b, h1, h2⟩ fun ⟨x, z⟩ ⟨y, h1, h2⟩ => ?_
  have h1 : Sub t x y := h1
  have h2 : Sub t y z := h2
  by_cases kx : (at_ t x).1 = 5
  · have r := sub_rule h1
    unfold RuleP at r ⊢
    rw [if_pos kx] at r ⊢
    exact fun e he => ⟨y, r e he, h2⟩
  · obtain ⟨n, hn⟩ : ∃ n, y.toNat = n := ⟨_, rfl⟩
    induction n using Nat.strongRecOn generalizing y with
    | _ n ih =>
      have r1 := sub_rule h1
      have r2 := sub_rule h2
      by_cases ky : (at_ t y).1 = 5
      · unfold RuleP at r1 r2
        rw [if_neg kx, if_pos ky] at r1
        rw [if_pos ky] at r2
        obtain ⟨e, he, r1⟩ := r1
        exact ih e.toNat (by have := h.elem_lt ky he; omega) e r1 (r2 e he) r1 (r2 e he) rfl
      · unfold RuleP at r1 r2 ⊢
        rw [if_neg kx, if_neg ky] at r1
        rw [if_neg ky] at r2
        rw [if_neg kx]
        by_cases kz : (at_ t z).1 = 5
        · rw [if_pos kz] at r2 ⊢
          obtain ⟨e, he, r2⟩ := r2
          exact ⟨e, he, y, h1, r2⟩
        · rw [if_neg kz] at r2 ⊢
          by_cases k0 : (at_ t z).1 = 0
          · rw [if_pos k0]; trivial
          · rw [if_neg k0] at r2 ⊢
            simp only at r1 r2 ⊢
            by_cases e2 : (at_ t y).1 = (at_ t z).1
            · rw [if_neg (by simpa using e2)] at r2
              rw [if_neg (by rw [e2]; exact k0)] at r1
              by_cases e1 : (at_ t x).1 = (at_ t y).1
              · rw [if_neg (by simpa using e1)] at r1
                rw [if_neg (by rw [e1]; simpa using e2)]
                intro f hf
                obtain ⟨k, hk, hs⟩ := r2 f hf
                obtain ⟨k', hk', hs'⟩ := r1 (f.1, k) (fieldT_mem hk)
                exact ⟨k', hk', k, hs', hs⟩
              · rw [if_pos e1] at r1; exact r1.elim
            · rw [if_pos e2] at r2; exact r2.elim
abbrev Vl := Int × Int
def kindOf (k : Int) : Int := if k = 1 then 0 else if k = 2 then 1 else if k = 3 then 2 else if k = 4 then 4 else 0
def RuleI (t : List Tt) (look : Vl → ByteArray → Option Vl) (R : Vl × Int → Prop) (p : Vl × Int) : Prop :=
  if (at_ t p.2).1 = 0 then True
  else if (at_ t p.2).1 = 5 then ∃ e ∈ (at_ t p.2).2.2, R (p.1, e)
  else if kindOf (at_ t p.2).1 ≠ p.1.1 then False
  else ∀ f ∈ (at_ t p.2).2.1, ∃ w, look p.1 f.1 = some w ∧ R (w, f.2)
def fieldI (look : Vl → ByteArray → Option Vl) (v : Vl) (g : Vl × Int → Bool) (f : Tf) : Bool := match look v f.1 with
  | some k => g (k, f.2)
  | none => false
def ruleI (t : List Tt) (look : Vl → ByteArray → Option Vl) (p : Vl × Int) (g : Vl × Int → Bool) : Bool :=
  if (at_ t p.2).1 = 0 then true
  else if (at_ t p.2).1 = 5 then (at_ t p.2).2.2.any fun e => g (p.1, e)
  else if kindOf (at_ t p.2).1 ≠ p.1.1 then false
  else (at_ t p.2).2.1.all (fieldI look p.1 g)
def askedI (t : List Tt) (look : Vl → ByteArray → Option Vl) (p : Vl × Int) : List (Vl × Int) :=
  if (at_ t p.2).1 = 0 then []
  else if (at_ t p.2).1 = 5 then (at_ t p.2).2.2.map fun e => (p.1, e)
  else if kindOf (at_ t p.2).1 ≠ p.1.1 then []
  else (at_ t p.2).2.1.filterMap fun f => (look p.1 f.1).map fun k => (k, f.2)
theorem ruleI_iff {t : List Tt} {look : Vl → ByteArray → Option Vl} {p : Vl × Int} {g : Vl × Int → Bool} : ruleI t look p g = true ↔ RuleI t look (fun q => g q = true) p := by
  unfold ruleI RuleI
  split
  · simp
  · split
    · simp
    · split
      · simp
      · rw [List.all_eq_true]
        refine forall_congr' fun f => forall_congr' fun _ => ?_
        unfold fieldI
        cases look p.1 f.1 <;> simp
theorem RuleI.mono {t : List Tt} {look : Vl → ByteArray → Option Vl} {R R' : Vl × Int → Prop} {p : Vl × Int} (h : ∀ o ∈ askedI t look p, R o → R' o) (hp : RuleI t look R p) : RuleI t look R' p := by
  unfold RuleI at hp ⊢
  unfold askedI at h
  split at hp
  · rename_i c; rw [if_pos c]; trivial
  · rename_i c; rw [if_neg c] at h ⊢
    split at hp
    · rename_i c; rw [if_pos c] at h ⊢
      obtain ⟨e, he, hp⟩ := hp
      exact ⟨e, he, h _ (List.mem_map.2 ⟨e, he, rfl⟩) hp⟩
    · rename_i c; rw [if_neg c] at h ⊢
      split at hp
      · exact hp.elim
      · rename_i c; rw [if_neg c] at h ⊢
        intro f hf
        obtain ⟨k, hk, hR⟩ := hp f hf
        exact ⟨k, hk, h _ (List.mem_filterMap.2 ⟨f, hf, by rw [hk]; rfl⟩) hR⟩
theorem ruleI_mono (t : List Tt) (look : Vl → ByteArray → Option Vl) : ∀ k (f g : Vl × Int → Bool), (∀ o ∈ askedI t look k, f o = true → g o = true) → ruleI t look k f = true → ruleI t look k g = true :=
  fun _ _ _ h hr => ruleI_iff.2 (RuleI.mono h (ruleI_iff.1 hr))
def In (t : List Tt) (look : Vl → ByteArray → Option Vl) (v : Vl) (a : Int) : Prop := Gfp (ruleI t look) (v, a)
open Classical in
theorem holdsI_iff {t : List Tt} {look : Vl → ByteArray → Option Vl} {T : Vl × Int → Prop} : Holds (ruleI t look) T ↔ ∀ p, T p → RuleI t look T p := by
  constructor
  · intro h p hp
    have := ruleI_iff.1 (h p hp (fun q => decide (T q)) fun o ho => by simpa using ho)
    exact this.mono fun o _ q => by simpa using q
  · intro h p hp f hf
    exact ruleI_iff.2 ((h p hp).mono fun o _ q => hf o q)
theorem in_of {t : List Tt} {look : Vl → ByteArray → Option Vl} {v : Vl} {a : Int} (T : Vl × Int → Prop) (h : T (v, a)) (hT : ∀ p, T p → RuleI t look T p) : In t look v a := ⟨T, h, holdsI_iff.2 hT⟩
theorem in_rule {t : List Tt} {look : Vl → ByteArray → Option Vl} {v : Vl} {a : Int} (h : In t look v a) : RuleI t look (fun q => In t look q.1 q.2) (v, a) :=
  holdsI_iff.1 (gfp_holds (askedI t look) (ruleI t look) (ruleI_mono t look)) (v, a) h
theorem in_sub {t : List Tt} {look : Vl → ByteArray → Option Vl} (h : MayT t) {v : Vl} {a b : Int} (h1 : In t look v a) (h2 : Sub t a b) : In t look v b := by
  refine in_of (fun p => ∃ a, In t look p.1 a ∧ Sub t a p.2) ⟨a, h1, h2⟩ fun ⟨v, z⟩ ⟨y, h1, h2⟩ => ?_
  have h1 : In t look v y := h1
  have h2 : Sub t y z := h2
  obtain ⟨n, hn⟩ : ∃ n, y.toNat = n := ⟨_, rfl⟩
  induction n using Nat.strongRecOn generalizing y with
  | _ n ih =>
    have r1 := in_rule h1
    have r2 := sub_rule h2
    by_cases ky : (at_ t y).1 = 5
    · unfold RuleI at r1
      unfold RuleP at r2
      rw [if_neg (by rw [ky]; decide), if_pos ky] at r1
      rw [if_pos ky] at r2
      obtain ⟨e, he, r1⟩ := r1
      exact ih e.toNat (by have := h.elem_lt ky he; omega) e r1 (r2 e he) r1 (r2 e he) rfl
    · unfold RuleI at r1 ⊢
      unfold RuleP at r2
      simp only at r1 r2 ⊢
      rw [if_neg ky] at r2
      by_cases k0 : (at_ t z).1 = 0
      · rw [if_pos k0]; trivial
      · rw [if_neg k0]
        by_cases kz : (at_ t z).1 = 5
        · rw [if_pos kz] at r2 ⊢
          obtain ⟨e, he, r2⟩ := r2
          exact ⟨e, he, y, h1, r2⟩
        · rw [if_neg kz, if_neg k0] at r2
          rw [if_neg kz]
          by_cases e2 : (at_ t y).1 = (at_ t z).1
          · rw [if_neg (by simpa using e2)] at r2
            rw [if_neg (by rw [e2]; exact k0), if_neg ky] at r1
            by_cases e1 : kindOf (at_ t y).1 = v.1
            · rw [if_neg (by simpa using e1)] at r1
              rw [if_neg (by rw [← e2]; simpa using e1)]
              intro f hf
              obtain ⟨k, hk, hs⟩ := r2 f hf
              obtain ⟨w, hw, hi⟩ := r1 (f.1, k) (fieldT_mem hk)
              exact ⟨w, hw, k, hi, hs⟩
            · rw [if_pos e1] at r1; exact r1.elim
          · rw [if_pos e2] at r2; exact r2.elim
theorem at_more {t u : List Tt} {x : Int} (h : x.toNat < t.length) : at_ (t ++ u) x = at_ t x := by
  unfold at_ P.get
  rw [List.getD_eq_getElem?_getD, List.getD_eq_getElem?_getD, List.getElem?_append_left h]
def Inn (t : List Tt) (x : Int) : Prop := x.toNat < t.length
theorem asked_inn {t : List Tt} (h : MayT t) {p : Int × Int} (h1 : Inn t p.1) (h2 : Inn t p.2) : ∀ o ∈ asked t p, (Inn t o.1 ∧ Inn t o.2) ∧ ((0 ≤ p.1 → 0 ≤ o.1) ∧ (0 ≤ p.2 → 0 ≤ o.2)) := by
  intro o ho
  unfold Inn at *
  unfold asked at ho
  split at ho
  · rename_i k
    obtain ⟨e, he, rfl⟩ := List.mem_map.1 ho
    have := h.elem_lt k he
    exact ⟨⟨by show e.toNat < _; omega, h2⟩, fun _ => this.1, fun z => z⟩
  · split at ho
    · rename_i k
      obtain ⟨e, he, rfl⟩ := List.mem_map.1 ho
      have := h.elem_lt k he
      exact ⟨⟨h1, by show e.toNat < _; omega⟩, fun z => z, fun _ => this.1⟩
    · split at ho
      · cases ho
      · split at ho
        · cases ho
        · rename_i k0 k
          obtain ⟨f, hf, ho⟩ := List.mem_filterMap.1 ho
          cases q : fieldT (at_ t p.1).2.1 f.1 with
          | none => rw [q] at ho; cases ho
          | some j =>
            rw [q] at ho
            injection ho with ho
            subst ho
            have k0' : (at_ t p.1).1 ≠ 0 := by
              have : (at_ t p.1).1 = (at_ t p.2).1 := by simpa using k
              rw [this]; exact k0
            have a1 := h.fld _ _ (at_pos k0') _ (fieldT_mem q)
            have a2 := h.fld _ _ (at_pos k0) f hf
            simp only at a1
            exact ⟨⟨by show j.toNat < _; omega, by show f.2.toNat < _; omega⟩, fun _ => a1.1, fun _ => a2.1⟩
theorem rule_more {t u : List Tt} {R : Int × Int → Prop} {p : Int × Int} (h1 : Inn t p.1) (h2 : Inn t p.2) : RuleP (t ++ u) R p ↔ RuleP t R p := by
  unfold RuleP
  rw [at_more h1, at_more h2]
theorem sub_more {t u : List Tt} (h : MayT t) {a b : Int} (h1 : Inn t a) (h2 : Inn t b) : Sub (t ++ u) a b ↔ Sub t a b := by
  constructor
  · intro hs
    refine sub_of (fun p => Sub (t ++ u) p.1 p.2 ∧ Inn t p.1 ∧ Inn t p.2) ⟨hs, h1, h2⟩ fun p ⟨q1, q2, q3⟩ => ?_
    refine RuleP.mono (fun o ho z => ⟨z, (asked_inn h q2 q3 o ho).1⟩) ((rule_more q2 q3).1 (sub_rule q1))
  · intro hs
    refine sub_of (fun p => Sub t p.1 p.2 ∧ Inn t p.1 ∧ Inn t p.2) ⟨hs, h1, h2⟩ fun p ⟨q1, q2, q3⟩ => ?_
    refine (rule_more q2 q3).2 (RuleP.mono (fun o ho z => ⟨z, (asked_inn h q2 q3 o ho).1⟩) (sub_rule q1))
theorem sub_any {t : List Tt} {a b : Int} (h : (at_ t b).1 = 0) : Sub t a b := by
  refine sub_of (fun p => p.2 = b) rfl fun ⟨x, y⟩ e => ?_
  have e : y = b := e
  subst e
  unfold RuleP
  by_cases k : (at_ t x).1 = 5
  · rw [if_pos k]; exact fun _ _ => rfl
  · rw [if_neg k, if_neg (by rw [h]; decide), if_pos h]; trivial
theorem sub_null {t : List Tt} {a b : Int} (h : at_ t b = (1, [], [])) (ha : (at_ t a).1 ≠ 5) : Sub t a b ↔ (at_ t a).1 = 1 := by
  have key : ∀ R, RuleP t R (a, b) ↔ (at_ t a).1 = 1 := fun R => by
    unfold RuleP
    rw [if_neg ha, if_neg (by rw [h]; decide), if_neg (by rw [h]; decide)]
    simp only [h]
    split
    · rename_i q; simp [q]
    · rename_i q; simp at q; simp [q]
  constructor
  · intro hs; exact (key _).1 (sub_rule hs)
  · intro q
    exact sub_of (fun p => p = (a, b)) rfl fun p e => by subst e; exact (key _).2 q
end Go.PL.Ty
end

/- Lemmas for the claim. -/
import Derived.Test.YtoicfdfjjnfgaaaG3
import Derived.WalkKit
import Derived.ProofKit
import Derived.Below
import Derived.Carry
import Derived.SizedLaws
import Derived.RowKit
import Derived.Ground.SlsfProg
import Derived.Shelf.SlSortCmp.WholeK
import Derived.Test.YtoicfdfjjnfgaaaProg
import Derived.KernelRfl
import Derived.Lib.Walk
import Derived.Lib.Small
import Derived.Sort.Grow
import Derived.LoopN
import Derived.Handy
import Derived.Deep.DeepMust
import Derived.Deep.RegionHeld3
import Derived.Sort.LotA
set_option linter.all false
section
namespace Go.PG
open Go.RowKit Go.ChangeShapes
variable {N : Nat} {P : Program} {w : World} {H : Type} {enc : TypeId × Value → H}
def ArgsOk (P : Program) : Ty → List TypeId → Prop
  | .unit, ts => ts = []
  | .pair a b, ts => ∃ t r, ts = t :: r ∧ Ok P a (.typ t) ∧ readTy a = true ∧ ArgsOk P b r
  | a, ts => ∃ t, ts = [t] ∧ Ok P a (.typ t) ∧ readTy a = true
theorem dataOf {B : Ty → Nat} {Gd : TypeId → Prop} (HB : BytesOk P B Gd) {base : Nat} {t : Ty} {id : TypeId} (hg : Gd id) (hok : Ok P t (.typ id)) (hr : readTy t = true) {v : Value} (hv : Value.okWide P w .any base id v) {d : DataW H} {ps : List MemPlace} (h : DataW.Trod enc P w 0 (fun _ => true) true id v d ps) :
    ∃ y : t.D, RepDV (fun _ => False) w t y v ∧ Wf t y ∧ (InrN N (d.weights P id) → WbN N B t y) := by
  obtain ⟨fuel, h⟩ := h
  obtain ⟨y, h1, h2⟩ := (read_all HB t).1 id fuel _ _ hg hok hr h
  refine ⟨y, ?_, h2⟩
  have one : isSt t = false → v.cells = #[v] → RepDV (fun _ => False) w t y v := by
    intro hs hc
    rw [hc] at h1
    exact .inr ⟨hs, h1⟩
  cases t with
  | unit => exact hok.elim
  | map _ _ => exact hok.elim
  | dmap _ _ => exact hok.elim
  | bld _ _ => exact hok.elim
  | pair a b => exact hok.elim
  | opq => simp [readTy] at hr
  | bool => obtain ⟨b, rfl⟩ := Go.WideShapes.okWide_bool hok.1 hv; exact one rfl rfl
  | int k => obtain ⟨n, rfl⟩ := Go.WideShapes.okWide_int hok.1 hv; exact one rfl rfl
  | str => obtain ⟨n, rfl⟩ := Go.WideShapes.okWide_string hok.1 hv; exact one rfl rfl
  | slice e => obtain ⟨⟨e', hu, _⟩, _⟩ := hok; obtain ⟨_, _, _, rfl⟩ := Go.WideShapes.okWide_slice hu hv; exact one rfl rfl
  | st b =>
    obtain ⟨hk, _⟩ := hok
    have : ∃ cs, v = .agg cs := by
      rcases hk with ⟨fs, hu, _⟩ | ⟨n, e, hu, _⟩
      · simp only [Value.okWide, hu] at hv
        obtain ⟨cs, e, _⟩ := hv
        exact ⟨cs, e⟩
      · simp only [Value.okWide, hu] at hv
        obtain ⟨cs, e, _⟩ := hv
        exact ⟨cs, e⟩
    obtain ⟨cs, rfl⟩ := this
    exact .inl ⟨rfl, cs, rfl, h1⟩
theorem argsOf {B : Ty → Nat} {Gd : TypeId → Prop} (HB : BytesOk P B Gd) {base : Nat} : ∀ (t : Ty) (ts : List TypeId) (vs : List Value) (ds : List (DataW H)) (ps : List MemPlace), (∀ u, u ∈ ts → Gd u) → ArgsOk P t ts → (∀ (j : Nat) id v, ts[j]? = some id → vs[j]? = some v → Value.okWide P w .any base id v) →
    DataW.TrodAll enc P w 0 (fun _ => true) true ts vs ds ps → ∃ x : t.D, RepT (cz (fun _ => False) w) (argAV t x) vs ∧ Wf t x ∧ (InrN N (DataW.weightsEach P ts ds) → WbN N B t x) := by
  have one : ∀ (t : Ty) (id : TypeId) (vs : List Value) (ds : List (DataW H)) (ps : List MemPlace), Gd id → Ok P t (.typ id) → readTy t = true → (∀ (j : Nat) id' v, [id][j]? = some id' → vs[j]? = some v → Value.okWide P w .any base id' v) →
      DataW.TrodAll enc P w 0 (fun _ => true) true [id] vs ds ps → ∃ x : t.D, RepT (cz (fun _ => False) w) (.data t x) vs ∧ Wf t x ∧ (InrN N (DataW.weightsEach P [id] ds) → WbN N B t x) := by
    intro t id vs ds ps hg hok hr hv h
    obtain ⟨v, vs', d, ds', p, q, rfl, rfl, rfl, h1, h2⟩ := trodAll_cons h
    obtain ⟨rfl, rfl, rfl⟩ := trodAll_nil h2
    obtain ⟨y, h3, h4, h5⟩ := dataOf HB hg hok hr (hv 0 id v rfl rfl) h1
    refine ⟨y, ?_, h4, fun hw => h5 ?_⟩
    · rw [repT_data, cz_Zeq]
      exact ⟨v, rfl, h3⟩
    · simp only [DataW.weightsEach] at hw
      exact hw.left
  intro t
  induction t with
  | unit =>
    intro ts vs ds ps hg ha hv h
    have ha : ts = [] := ha
    subst ha
    obtain ⟨rfl, rfl, rfl⟩ := trodAll_nil h
    exact ⟨(), by simp only [argAV, RepT], trivial, fun _ => trivial⟩
  | pair a b iha ihb =>
    intro ts vs ds ps hg ha hv h
    obtain ⟨id, r, rfl, hok, hr, hb⟩ := ha
    obtain ⟨v, vs', d, ds', p, q, rfl, rfl, rfl, h1, h2⟩ := trodAll_cons h
    obtain ⟨y, h3, h4, h7⟩ := dataOf HB (hg id (by simp)) hok hr (hv 0 id v rfl rfl) h1
    obtain ⟨z, h5, h6, h8⟩ := ihb r vs' ds' q (fun u hu => hg u (List.mem_cons_of_mem _ hu)) hb (fun j id' v' q1 q2 => hv (j + 1) id' v' (by simpa using q1) (by simpa using q2)) h2
    refine ⟨(y, z), ?_, ⟨h4, h6⟩, fun hw => by
      simp only [DataW.weightsEach] at hw
      exact ⟨h7 hw.left, h8 hw.right⟩⟩
    simp only [argAV, RepT, RepV]
    rw [cz_Zeq]
    exact ⟨v, vs', rfl, h3, h5⟩
  | bool => intro ts vs ds ps hg ha hv h; obtain ⟨id, rfl, hok, hr⟩ := ha; exact one _ id vs ds ps (hg id (by simp)) hok hr hv h
  | int k => intro ts vs ds ps hg ha hv h; obtain ⟨id, rfl, hok, hr⟩ := ha; exact one _ id vs ds ps (hg id (by simp)) hok hr hv h
  | str => intro ts vs ds ps hg ha hv h; obtain ⟨id, rfl, hok, hr⟩ := ha; exact one _ id vs ds ps (hg id (by simp)) hok hr hv h
  | opq => intro ts vs ds ps hg ha hv h; obtain ⟨id, rfl, hok, hr⟩ := ha; exact one _ id vs ds ps (hg id (by simp)) hok hr hv h
  | map _ _ _ _ => intro ts vs ds ps hg ha hv h; obtain ⟨id, rfl, hok, hr⟩ := ha; exact one _ id vs ds ps (hg id (by simp)) hok hr hv h
  | dmap _ _ _ _ => intro ts vs ds ps hg ha hv h; obtain ⟨id, rfl, hok, hr⟩ := ha; exact one _ id vs ds ps (hg id (by simp)) hok hr hv h
  | bld _ _ => intro ts vs ds ps hg ha hv h; obtain ⟨id, rfl, hok, hr⟩ := ha; exact one _ id vs ds ps (hg id (by simp)) hok hr hv h
  | slice e _ => intro ts vs ds ps hg ha hv h; obtain ⟨id, rfl, hok, hr⟩ := ha; exact one _ id vs ds ps (hg id (by simp)) hok hr hv h
  | st b _ => intro ts vs ds ps hg ha hv h; obtain ⟨id, rfl, hok, hr⟩ := ha; exact one _ id vs ds ps (hg id (by simp)) hok hr hv h
theorem argsBack {W W' : World} (hl : laidOutB P = true) (hb : Below W.heap.size W W') : ∀ (ts : List TypeId) (vs : List Value) (ds : List (DataW H)) (ps : List MemPlace), (∀ t, t ∈ ts → P.readableRec t = true ∧ t < P.types.size) →
    DataW.TrodAll enc P W 0 (fun _ => true) true ts vs ds ps → DataW.TrodAll enc P W' 0 (fun b => decide (b < W.heap.size)) true ts vs ds ps := by
  intro ts
  induction ts with
  | nil => intro vs ds ps _ h; obtain ⟨rfl, rfl, rfl⟩ := trodAll_nil h; exact trodAll_mk0
  | cons t ts ih =>
    intro vs ds ps ht h
    obtain ⟨v, vs', d, ds', p, q, rfl, rfl, rfl, h1, h2⟩ := trodAll_cons h
    have hlt : ∀ x ∈ p, x.block < W.heap.size := by
      obtain ⟨m, hm⟩ := h1
      exact DataW.trod_lt m _ _ _ hm
    obtain ⟨r1, r2⟩ := ht t (by simp)
    exact trodAll_cons_mk (Below.trod hl r1 r2 h1 hb hlt) (ih vs' ds' q (fun u hu => ht u (List.mem_cons_of_mem _ hu)) h2)
theorem rowContractG {G : World → Prop} {f : FuncId} {fn : Func} {t : Ty} {F : t.D → Option Bool} {rt : TypeId} {s : ChangeSpec} {base : Nat} {W : World} {args : Array Value} {ds gs : List (DataW H)} {before : List MemPlace}
    (hs : SpecOk P G f ⟨t, .bool, F⟩) (hl : laidOutB P = true) (hp : ArgsOk P t fn.params.toList) (hread : ∀ t, t ∈ fn.params.toList → P.readableRec t = true ∧ t < P.types.size)
    (hres : fn.resultTypes = #[rt]) (hrt : P.underlying rt = some .bool) (hvars : s.vars = []) (hfn : ∀ ds : List (DataW H), ds.length = fn.params.toList.length → s.fn H ds = { results := [.lit (.bool true)], args := ds })
    (hval : ∀ (j : Nat) t v, fn.params[j]? = some t → args[j]? = some v → Value.okWide P W .any base t v) (hW : DataW.Whole enc P fn.params.toList s.vars false W args.toList ds gs before)
    (hF : ∀ x, Wf t x → F x = some true) (hG : G W) :
    Calls P f args W fun e W' => ∃ v, e = .returned v ∧ s.post enc P fn false true false false W args v W' := by
  have hW' := hW
  obtain ⟨p, q, hA, hV, rfl, hfz, hnd⟩ := hW
  rw [hvars] at hV
  obtain ⟨rfl, rfl⟩ := trodVars_none hV
  obtain ⟨x, hx, hwf, _⟩ := argsOf (N := reachBytes) (B := fun _ => 0) (Gd := fun _ => True) ⟨fun _ _ _ _ => ⟨trivial, fun _ _ => Nat.zero_le _⟩, fun _ _ _ _ _ _ => trivial, fun _ _ _ _ _ => trivial⟩ t _ _ _ _ (fun _ _ => trivial) hp (fun j id v h1 h2 => hval j id v (by rw [← Array.getElem?_toList]; exact h1) (by rw [← Array.getElem?_toList]; exact h2)) hA
  refine (hs (fun _ => False) W args x true hG (fun _ h => h.elim) (hF x hwf) hx).mono fun e W' ⟨v, he, bel, hv⟩ => ⟨v, he, ?_⟩
  have hv : v = .bool true := repV_bool (by simpa only [resAV] using hv)
  subst hv
  have hlen : ds.length = fn.params.toList.length := by
    have : ∀ (ts : List TypeId) (vs : List Value) (ds : List (DataW H)) (ps : List MemPlace), DataW.TrodAll enc P W 0 (fun _ => true) true ts vs ds ps → ds.length = ts.length := by
      intro ts
      induction ts with
      | nil => intro vs ds ps h; obtain ⟨_, rfl, _⟩ := trodAll_nil h; rfl
      | cons t ts ih =>
        intro vs ds ps h
        obtain ⟨v, vs', d, ds', p, q, rfl, rfl, rfl, h1, h2⟩ := trodAll_cons h
        simp [ih _ _ _ h2]
    exact this _ _ _ _ hA
  refine ⟨ds, [], _, [], p, [], hW', ?_, ?_, ?_, bel.frame _, fun h => by cases h⟩
  · rw [List.append_nil, hfn ds hlen, hres]
    exact trodAll_mk1 (shut_bool hrt _)
  · rw [List.append_nil, hfn ds hlen]
    exact argsBack hl bel _ _ _ _ hread hA
  · rw [List.append_nil, hfn ds hlen, hvars]
    rfl
theorem rowContract {f : FuncId} {fn : Func} {t : Ty} {F : t.D → Option Bool} {rt : TypeId} {s : ChangeSpec} {base : Nat} {W : World} {args : Array Value} {ds gs : List (DataW H)} {before : List MemPlace}
    (hs : SpecOk P (fun _ => True) f ⟨t, .bool, F⟩) (hl : laidOutB P = true) (hp : ArgsOk P t fn.params.toList) (hread : ∀ t, t ∈ fn.params.toList → P.readableRec t = true ∧ t < P.types.size)
    (hres : fn.resultTypes = #[rt]) (hrt : P.underlying rt = some .bool) (hvars : s.vars = []) (hfn : ∀ ds : List (DataW H), ds.length = fn.params.toList.length → s.fn H ds = { results := [.lit (.bool true)], args := ds })
    (hval : ∀ (j : Nat) t v, fn.params[j]? = some t → args[j]? = some v → Value.okWide P W .any base t v) (hW : DataW.Whole enc P fn.params.toList s.vars false W args.toList ds gs before)
    (hF : ∀ x, Wf t x → F x = some true) :
    Calls P f args W fun e W' => ∃ v, e = .returned v ∧ s.post enc P fn false true false false W args v W' := rowContractG hs hl hp hread hres hrt hvars hfn hval hW hF trivial
end Go.PG
namespace Go.PG
def argsOkB (P : Program) : Ty → List TypeId → Bool
  | .unit, ts => match ts with
    | [] => true
    | _ => false
  | .pair a b, ts => match ts with
    | t :: r => match okB P a (.typ t), readTy a with
      | true, true => argsOkB P b r
      | _, _ => false
    | [] => false
  | a, ts => match ts with
    | [t] => match okB P a (.typ t), readTy a with
      | true, true => true
      | _, _ => false
    | _ => false
theorem ArgsOk.of_b {P : Program} : ∀ {t : Ty} {ts : List TypeId}, argsOkB P t ts = true → ArgsOk P t ts := by
  have one : ∀ {a : Ty} {ts : List TypeId}, (match ts with
      | [t] => match okB P a (.typ t), readTy a with
        | true, true => true
        | _, _ => false
      | _ => false) = true → ∃ t, ts = [t] ∧ Ok P a (.typ t) ∧ readTy a = true := by
    intro a ts h
    split at h
    · rename_i t
      split at h
      · rename_i h1 h2
        exact ⟨t, rfl, okB_spec h1, h2⟩
      · cases h
    · cases h
  intro t
  induction t with
  | unit =>
    intro ts h
    simp only [argsOkB] at h
    split at h
    · rfl
    · cases h
  | pair a b _ ihb =>
    intro ts h
    simp only [argsOkB] at h
    split at h
    · split at h
      · rename_i h1 h2
        exact ⟨_, _, rfl, okB_spec h1, h2, ihb h⟩
      · cases h
    · cases h
  | _ => intro ts h; exact one (by simpa only [argsOkB] using h)
def readB (P : Program) : List TypeId → Bool
  | [] => true
  | t :: r => match P.readableRec t, Nat.blt t P.types.size with
    | true, true => readB P r
    | _, _ => false
theorem readable_of_b {P : Program} : ∀ {ts : List TypeId}, readB P ts = true → ∀ t, t ∈ ts → P.readableRec t = true ∧ t < P.types.size := by
  intro ts
  induction ts with
  | nil => intro _ t h; cases h
  | cons u r ih =>
    intro h t ht
    simp only [readB] at h
    split at h
    · rename_i h1 h2
      rcases List.mem_cons.1 ht with rfl | ht
      · exact ⟨h1, by simpa [Nat.blt_eq] using h2⟩
      · exact ih h t ht
    · cases h
end Go.PG
end
section
namespace Go.PG
variable {P : Program}
end Go.PG
end
section
open Go Go.Proofs Go.Lib Go.RowKit
namespace Go.Proofs
open Go.Shelf
def Try.sortL_ren : Go.Shelf.Ren := ⟨fun | 6 => 175 | 15 => 185 | 14 => 184 | 28 => 199 | 29 => 200 | 20 => 191 | 21 => 192 | 22 => 193 | 23 => 194 | 24 => 195 | 25 => 196 | 26 => 197 | 27 => 198 | 46 => 202 | 47 => 203 | 48 => 204 | 49 => 205 | 50 => 206 | 57 => 207 | n => n, fun | 22 => 53 | 24 => 51 | 25 => 215 | 3 => 3 | 39 => 208 | 0 => 0 | 53 => 241 | 55 => 243 | 4 => 4 | 46 => 235 | 45 => 234 | 50 => 117 | 5 => 5 | 9 => 9 | 66 => 246 | 70 => 250 | 76 => 252 | 77 => 253 | n => n, fun | n => n⟩
theorem Try.sortL : Go.Proofs.SlLaysF0.n6 Try.prog Try.sortL_ren := {
  mixed := by kernel_rfl
  f6 := ⟨Try.f175.name, by decide, Try.func175.trans (congrArg some (by kernel_rfl))⟩
  f14 := ⟨Try.f184.name, by decide, Try.func184.trans (congrArg some (by kernel_rfl))⟩
  f15 := Try.func185.trans (congrArg some (by kernel_rfl))
  f20 := ⟨Try.f191.name, by decide, Try.func191.trans (congrArg some (by kernel_rfl))⟩
  f21 := ⟨Try.f192.name, by decide, Try.func192.trans (congrArg some (by kernel_rfl))⟩
  f22 := ⟨Try.f193.name, by decide, Try.func193.trans (congrArg some (by kernel_rfl))⟩
  f23 := ⟨Try.f194.name, by decide, Try.func194.trans (congrArg some (by kernel_rfl))⟩
  f24 := ⟨Try.f195.name, by decide, Try.func195.trans (congrArg some (by kernel_rfl))⟩
  f25 := ⟨Try.f196.name, by decide, Try.func196.trans (congrArg some (by kernel_rfl))⟩
  f26 := ⟨Try.f197.name, by decide, Try.func197.trans (congrArg some (by kernel_rfl))⟩
  f27 := ⟨Try.f198.name, by decide, Try.func198.trans (congrArg some (by kernel_rfl))⟩
  f28 := Try.func199.trans (congrArg some (by kernel_rfl))
  f29 := Try.func200.trans (congrArg some (by kernel_rfl))
  f46 := ⟨Try.f202.name, by decide, Try.func202.trans (congrArg some (by kernel_rfl))⟩
  f47 := Try.func203.trans (congrArg some (by kernel_rfl))
  f48 := Try.func204.trans (congrArg some (by kernel_rfl))
  f49 := ⟨Try.f205.name, by decide, Try.func205.trans (congrArg some (by kernel_rfl))⟩
  f50 := ⟨Try.f206.name, by decide, Try.func206.trans (congrArg some (by kernel_rfl))⟩
  f57 := ⟨Try.f207.name, by decide, Try.func207.trans (congrArg some (by kernel_rfl))⟩
  t0 := Try.underlying0
  a0 := Try.isAgg0
  z0 := Try.sizeOf0
  v0 := Try.zeroValue0
  t3 := Try.underlying3
  a3 := Try.isAgg3
  z3 := Try.sizeOf3
  v3 := Try.zeroValue3
  t4 := Try.underlying4
  a4 := Try.isAgg4
  z4 := Try.sizeOf4
  v4 := Try.zeroValue4
  t5 := Try.underlying5
  a5 := Try.isAgg5
  z5 := Try.sizeOf5
  v5 := Try.zeroValue5
  t9 := Try.underlying9
  a9 := Try.isAgg9
  z9 := Try.sizeOf9
  v9 := Try.zeroValue9
  t22 := Try.underlying53
  a22 := Try.isAgg53
  z22 := Try.sizeOf53
  v22 := Try.zeroValue53
  t25 := Try.underlying215
  a25 := Try.isAgg215
  z25 := Try.sizeOf215
  v25 := Try.zeroValue215
  t39 := Try.underlying208
  a39 := Try.isAgg208
  z39 := Try.sizeOf208
  v39 := Try.zeroValue208
  t45 := Try.underlying234
  a45 := Try.isAgg234
  z45 := Try.sizeOf234
  v45 := Try.zeroValue234
  t46 := Try.underlying235
  a46 := Try.isAgg235
  z46 := Try.sizeOf235
  v46 := Try.zeroValue235
  t50 := Try.underlying117
  a50 := Try.isAgg117
  z50 := Try.sizeOf117
  v50 := Try.zeroValue117
  t53 := Try.underlying241
  a53 := Try.isAgg241
  z53 := Try.sizeOf241
  v53 := Try.zeroValue241
  t55 := Try.underlying243
  a55 := Try.isAgg243
  z55 := Try.sizeOf243
  v55 := Try.zeroValue243
  t66 := Try.underlying246
  a66 := Try.isAgg246
  z66 := Try.sizeOf246
  v66 := Try.zeroValue246
  t70 := Try.underlying250
  a70 := Try.isAgg250
  z70 := Try.sizeOf250
  v70 := Try.zeroValue250
  t76 := Try.underlying252
  a76 := Try.isAgg252
  z76 := Try.sizeOf252
  v76 := Try.zeroValue252
  t77 := Try.underlying253
  a77 := Try.isAgg253
  z77 := Try.sizeOf253
  v77 := Try.zeroValue253 }
end Go.Proofs
namespace SortH
theorem nan_c (x : Int) (w : World) : Calls Try.prog 190 #[.int .i64 x] w fun e w' => e = .returned (.bool false) ∧ w' = w := by
  go_enter Try.func190, Try.ntmps190
  go_wp2
  go_ret
  exact ⟨by simp, rfl⟩
theorem cmp_c (x y : Int) (w : World) : Calls Try.prog 183 #[.int .i64 x, .int .i64 y] w fun e w' => e = .returned (.int .i64 (Lib.compareInt x y)) ∧ w' = w := by
  go_enter Try.func183, Try.ntmps183
  go_wp2_with (go_at_call 190; refine (nan_c _ _).mono ?_; rintro e w' ⟨rfl, hw⟩; rw [hw])
  all_goals (go_ret; refine ⟨?_, rfl⟩; unfold Lib.compareInt; (repeat' split) <;> first | rfl | (exfalso; omega))
def orI (x y : Int) : Int := if x = 0 then y else x
theorem or_c (b cap : Nat) (x y : Int) (w : World) (h0 : w.cell? ⟨b, 0, none⟩ = some (.int .i64 x)) (h1 : w.cell? ⟨b, 1, none⟩ = some (.int .i64 y)) :
    Calls Try.prog 182 #[.slice (some ⟨b, 0, none⟩) 2 cap] w fun e w' => e = .returned (.int .i64 (orI x y)) ∧ w' = w := by
  unfold orI
  go_enter Try.func182, Try.ntmps182
  go_wp2
  refine wp_loop_rounds 3 ?_
  rw [rounds_succ]
  go_wp2
  · exact absurd ‹x = 0› (by simpa using ‹(x != 0) = true›)
  · go_ret
    exact ⟨rfl, rfl⟩
  have hx : x = 0 := by simpa using ‹(x != 0) = false›
  subst hx
  rw [rounds_succ]
  go_wp2
  · go_ret
    exact ⟨rfl, rfl⟩
  have hy : y = 0 := by simpa using ‹(y != 0) = false›
  subst hy
  rw [rounds_succ]
  go_wp2
  go_ret
  exact ⟨rfl, rfl⟩
theorem cell_new (W : World) (x y : Value) (T : TypeId) (n : Nat) (hn : n = W.heap.size) : (W.alloc (.cells #[x, y] T)).drew.cell? ⟨n, 0, none⟩ = some x ∧ (W.alloc (.cells #[x, y] T)).drew.cell? ⟨n, 1, none⟩ = some y := by
  subst hn
  constructor <;> simp
theorem three (w : World) (o1 o2 o3 : Obj) : ∃ q os', (((w.alloc o1).alloc o2).alloc o3).drew = Sort.grow (w.drewN q) os' := by
  refine ⟨1, #[o1] ++ #[o2] ++ #[o3], ?_⟩
  rw [Sort.alloc_eq_grow, Sort.alloc_eq_grow, Sort.alloc_eq_grow, Sort.grow_grow, Sort.grow_grow]
  rfl
def cf (a b : Int × Int) : Int := orI (Lib.compareInt a.1 b.1) (Lib.compareInt a.2 b.2)
def enc (a : Int × Int) : List Value := [.int .i64 a.1, .int .i64 a.2]
theorem at_c (a b : Int × Int) (w : World) : Calls Try.prog 171 #[.agg #[.int .i64 a.1, .int .i64 a.2], .agg #[.int .i64 b.1, .int .i64 b.2]] w fun e w' => e = .returned (.int .i64 (cf a b)) ∧ ∃ q os', w' = Sort.grow (w.drewN q) os' := by
  go_enter Try.func171, Try.ntmps171
  go_wp2
  go_region_held3 (fun w' => w'.cell? ⟨w.heap.size, 0, none⟩ = some (.int .i64 a.1) ∧ w'.cell? ⟨w.heap.size, 1, none⟩ = some (.int .i64 a.2) ∧ w'.cell? ⟨w.heap.size + 1, 0, none⟩ = some (.int .i64 b.1) ∧ w'.cell? ⟨w.heap.size + 1, 1, none⟩ = some (.int .i64 b.2)) (go_keep)
    (first | (go_at_call 183; refine (cmp_c _ _ _).mono ?_; rintro e w' ⟨rfl, rfl⟩) | (go_at_call 182; go_must (refine (or_c _ _ (compareInt a.1 b.1) (compareInt a.2 b.2) _ (cell_new _ _ _ _ _ (by simp)).1 (cell_new _ _ _ _ _ (by simp)).2).mono ?_); rintro e w' ⟨rfl, rfl⟩))
  all_goals go_wp2
  go_ret
  exact ⟨rfl, three _ _ _ _⟩
theorem ins_nil (p : Option Addr) (cap : Nat) (w : World) : Calls Try.prog 191 #[.slice p 0 cap, .int .i64 0, .int .i64 0, .func (.func 171) #[] #[]] w fun e w' => e = .returned (.tuple #[]) ∧ w' = w := by
  go_enter Try.func191, Try.ntmps191
  go_wp2
  refine wp_loop_rounds 1 ?_
  rw [rounds_succ]
  go_wp2
  go_end0
  exact ⟨rfl, rfl⟩
set_option maxRecDepth 100000 in
theorem pdq_nil (p : Option Addr) (cap : Nat) (w : World) : Calls Try.prog 184 #[.slice p 0 cap, .int .i64 0, .int .i64 0, .int .i64 0, .func (.func 171) #[] #[]] w fun e w' => e = .returned (.tuple #[]) ∧ w' = w := by
  go_enter Try.func184, Try.ntmps184
  go_wp2
  refine wp_loop_rounds 1 ?_
  rw [rounds_succ]
  go_wp2_with (first | (go_at_call 191; refine (ins_nil p cap _).mono ?_; rintro e w' ⟨rfl, rfl⟩))
  refine bodyPost_ret (results_none rfl _ _ _) rfl ?_
  exact ⟨rfl, rfl⟩
theorem sort_nil (p : Option Addr) (cap : Nat) (w : World) : Calls Try.prog 175 #[.slice p 0 cap, .func (.func 171) #[] #[]] w fun e w' => e = .returned (.tuple #[]) ∧ w' = w := by
  have hLen : ∀ w, Calls Try.prog 185 #[.int .u64 0] w fun e w' => e = .returned (.int .i64 0) ∧ w' = w := fun w => Any.bits_Len (SlLaysF0.n15.bits (P := Try.prog) (ρ := Try.sortL_ren) { Try.sortL with }) 0 w (by omega) (by omega)
  go_enter Try.func175, Try.ntmps175
  go_wp2_with (first
    | (go_at_call 185; refine (hLen _).mono ?_; rintro e w' ⟨rfl, rfl⟩)
    | (go_at_call 184; refine (pdq_nil p cap _).mono ?_; rintro e w' ⟨rfl, rfl⟩))
  go_end0
  exact ⟨rfl, rfl⟩
end SortH
end
section
open Go Go.PG Go.Proofs Go.RowKit Go.Sort
namespace SortH
def sortF (l : List (Int × Int)) : Option (List (Int × Int)) := if l.length < 4611686018427387904 then some (l.mergeSort fun a b => decide (a.1 < b.1 ∨ (a.1 = b.1 ∧ a.2 ≤ b.2))) else none
theorem cf_lt (a b : Int × Int) : ltOf cf a b = decide (a.1 < b.1 ∨ (a.1 = b.1 ∧ a.2 < b.2)) := by
  unfold ltOf cf orI Lib.compareInt
  rw [decide_eq_decide]
  repeat' split
  all_goals omega
theorem swo : SWO (ltOf cf) := by
  refine ⟨fun x => ?_, fun x y z => ?_, fun x y z => ?_⟩
  · rw [cf_lt]; simp
  · rw [cf_lt, cf_lt, cf_lt]; simp only [decide_eq_true_eq]; omega
  · rw [cf_lt, cf_lt, cf_lt]; simp only [decide_eq_false_iff_not]; omega
theorem uniq (x y : Int × Int) (h1 : ltOf cf x y = false) (h2 : ltOf cf y x = false) : x = y := by
  rw [cf_lt] at h1 h2
  simp only [decide_eq_false_iff_not] at h1 h2
  exact Prod.ext (by omega) (by omega)
theorem leb_eq : (fun x y : Int × Int => !ltOf cf y x) = fun a b => decide (a.1 < b.1 ∨ (a.1 = b.1 ∧ a.2 ≤ b.2)) := by
  funext a b
  rw [cf_lt, Bool.eq_iff_iff]
  simp only [Bool.not_eq_true', decide_eq_false_iff_not, decide_eq_true_eq]
  omega
abbrev TA : Ty := .st (.pair (.int .i64) (.int .i64))
theorem rep_enc {Z : Nat → Prop} {w : World} {x : TA.D} {cs : List Value} : RepD Z w TA x cs ↔ cs = enc x := by
  simp only [RepD]
  constructor
  · rintro ⟨c1, c2, rfl, rfl, rfl⟩; rfl
  · intro h; exact ⟨_, _, h, rfl, rfl⟩
theorem enc_len (x : Int × Int) : (enc x).length = 2 := rfl
theorem sort_ok (G : World → Prop) : InplOk Try.prog G 175 ⟨TA, 171, sortF⟩ := by
  refine ⟨rfl, ?_⟩
  intro w A cap xs ys _ hF hcap hrow
  have hlen : xs.length < 4611686018427387904 := by
    apply Classical.byContradiction
    intro q
    simp only [sortF] at hF
    rw [if_neg q] at hF
    cases hF
  have hF : xs.mergeSort (fun a b => decide (a.1 < b.1 ∨ (a.1 = b.1 ∧ a.2 ≤ b.2))) = ys := by
    simp only [sortF] at hF
    rw [if_pos hlen] at hF
    exact Option.some.inj hF
  by_cases hx : xs = []
  · subst hx
    have hy : ys = [] := by rw [← hF]; exact List.mergeSort_nil
    subst hy
    refine (sort_nil A cap w).mono ?_
    rintro e w' ⟨rfl, rfl⟩
    exact ⟨rfl, rfl, rfl, rfl, rfl, Nat.le_refl _, fun _ k _ => rfl, fun b o cs el h => absurd rfl h⟩
  · obtain ⟨b, o, cs, el, rfl, hb, hfit, hel⟩ := hrow.resolve_left hx
    have hsz : ∀ l : List TA.D, l.toArray.size = l.length := fun l => rfl
    have hfr : ∀ a : Addr, a.block = b → w.frozen? a = false := by
      intro a ha
      unfold World.frozen?
      rw [ha, hb]
      simp
    have hbs : b < w.heap.size := (Array.getElem?_eq_some_iff.1 hb).1
    have hget : ∀ (l : List TA.D) (i : Nat) (x : TA.D), l[i]? = some x → l.toArray[i]! = x := by
      intro l i x h
      obtain ⟨h1, h2⟩ := List.getElem?_eq_some_iff.1 h
      simp [h1, h2]
    have hH : HoldsK enc 2 w b o xs.toArray := by
      intro j hj
      rw [size_flatK, hsz] at hj
      refine ⟨?_, hfr _ rfl⟩
      rw [get_flatK _ _ _ _ hj]
      have hi : j / 2 < xs.length := by omega
      obtain ⟨d, h1, h2⟩ := hel (j / 2) xs[j / 2] (List.getElem?_eq_getElem hi)
      rw [rep_enc] at h1
      subst h1
      rw [hget xs (j / 2) xs[j / 2] (List.getElem?_eq_getElem hi)]
      have hv : (enc xs[j / 2])[j % 2]? = some (enc xs[j / 2])[j % 2]! := by
        have : j % 2 < (enc xs[j / 2]).length := by rw [enc_len]; omega
        rw [List.getElem?_eq_getElem this]; simp [this]
      have := h2 (j % 2) _ hv
      rw [show o + j = o + j / 2 * TA.size + j % 2 from by show o + j = o + j / 2 * 2 + j % 2; omega]
      exact this
    have hcmp : CmpLays Try.prog 171 #[] enc 2 cf b o xs.toArray.size w := fun m os dk _ x y => at_c x y _
    have main := AnyQ.slices_SortFunc (P := Try.prog) (ρ := Try.sortL_ren) Try.sortL 2 Try.isAgg51 Try.sizeOf51 enc enc_len (fun x v hv => by
      simp only [enc, List.mem_cons, List.not_mem_nil, or_false] at hv
      rcases hv with rfl | rfl <;> rfl) cf swo 171 #[] b o cap xs.toArray w (enters_of Try.func171 (by kernel_rfl) rfl) hcmp hH hbs hlen
    refine main.mono ?_
    rintro e w' ⟨rfl, d', n, os, hperm, hsort, rfl⟩
    have hys : d'.toList = ys := by
      have := sorted_unique_holds (lt := ltOf cf) swo uniq xs.toArray d' hperm hsort
      rw [leb_eq] at this
      rw [this, ← hF]
    have hd : d' = ys.toArray := by rw [← hys]
    subst hd
    have hl : ys.length = xs.length := by rw [← hF, List.length_mergeSort]
    have hb' : (sortWorldK enc 2 w b o n ys.toArray os).heap[b]? = some (.cells (putCells id o (flatK enc 2 ys.toArray) cs) el (0, 0)) := by
      unfold sortWorldK grow putRowK putRow mapBlock
      show (w.heap.modify b _ ++ os)[b]? = _
      rw [Array.getElem?_append_left (by simpa using hbs), Array.getElem?_modify, if_pos rfl, hb]
      rfl
    refine ⟨rfl, hl, rfl, rfl, rfl, size_sortWorldK_c enc 2 w b o n _ os, fun q => absurd q hx, ?_⟩
    intro b1 o1 cs1 el1 _ hA hb1
    obtain ⟨rfl, rfl⟩ : b = b1 ∧ o = o1 := by
      have := Option.some.inj hA
      exact ⟨congrArg Addr.block this, congrArg Addr.off this⟩
    rw [hb] at hb1
    obtain ⟨rfl, rfl⟩ : cs = cs1 ∧ el = el1 := by
      have := Option.some.inj hb1
      injection this with h1 h2
      exact ⟨h1, h2⟩
    refine ⟨fun k hk hne => ?_, putCells id o (flatK enc 2 ys.toArray) cs, hb', by simp [putCells], fun i y hy => ⟨enc y, rep_enc.2 rfl, fun j v hv => ?_⟩⟩
    · unfold sortWorldK grow putRowK putRow mapBlock
      show (w.heap.modify b _ ++ os)[k]? = _
      rw [Array.getElem?_append_left (by simpa using hk), Array.getElem?_modify, if_neg (fun q => hne q.symm)]
    · have hi : i < ys.length := (List.getElem?_eq_some_iff.1 hy).1
      have hj : j < 2 := by have := (List.getElem?_eq_some_iff.1 hv).1; rw [enc_len] at this; exact this
      have ht : i * 2 + j < (flatK enc 2 ys.toArray).size := by rw [size_flatK, hsz]; omega
      rw [show o + i * TA.size + j = o + (i * 2 + j) from by show o + i * 2 + j = _; omega]
      unfold World.cell?
      rw [show (Addr.mk b (o + (i * 2 + j)) none).block = b from rfl, hb']
      have hc : o + (i * 2 + j) < cs.size := by
        have : xs.length * 2 = xs.length * TA.size := rfl
        rw [← this] at hfit
        rw [size_flatK, hsz] at ht
        omega
      simp only [putCells, Option.isSome_none, Bool.false_eq_true, if_false, Array.getElem?_mapIdx, Array.getElem?_eq_getElem hc, Option.map_some]
      rw [if_pos ⟨by omega, by omega⟩, show o + (i * 2 + j) - o = i * 2 + j by omega, get_flatK _ _ _ _ (by simpa using ht), show (i * 2 + j) / 2 = i by omega, show (i * 2 + j) % 2 = j by omega, hget ys i y hy]
      obtain ⟨h1, h2⟩ := List.getElem?_eq_some_iff.1 hv
      simp [h1, h2]
end SortH
end

/- Lemmas for the claim. -/
import Derived.Test.YtoicfdfjjnfgaaaDoorG3
import Derived.WalkKit
import Derived.ProofKit
import Derived.Below
import Derived.Carry
import Derived.SizedLaws
import Derived.RowKit
import Derived.Shelf.Strings.Builder1
import Derived.Shelf.Strings.Builder2
import Derived.Shelf.Strings.OnBuilder
import Derived.Shelf.Small.Strs
import Derived.Shelf.Small.Wraps
import Derived.Shelf.Strings.BuilderF
import Derived.Shelf.Strings.BuilderK
import Derived.Shelf.Strings.Builder2Cap
import Derived.Shelf.Strconv.Itoa0
import Derived.Shelf.Strconv.Itoa1
import Derived.Shelf.LaysM
import Derived.Shelf.Strconv.Itoa2
import Derived.Shelf.Strconv.Itoa3
import Derived.Shelf.Strings.BuilderCap
import Derived.Test.YtoicfdfjjnfgaaaDoorProg
import Derived.KernelRfl
import Derived.Lib.Strings
import Derived.Lib.Slices
import Derived.Lib.Walk
import Derived.Lib.Bytealg
import Derived.Test.YtoicfdfjjnfgaaaDoorG1
import Derived.Laws.Strings
set_option linter.all false
section
namespace Go.PG
open Go.RowKit Go.ChangeShapes
variable {N : Nat} {P : Program} {w : World} {H : Type} {enc : TypeId × Value → H}
def ArgsOk (P : Program) : Ty → List TypeId → Prop
  | .unit, ts => ts = []
  | .pair a b, ts => ∃ t r, ts = t :: r ∧ Ok P a (.typ t) ∧ readTy a = true ∧ ArgsOk P b r
  | a, ts => ∃ t, ts = [t] ∧ Ok P a (.typ t) ∧ readTy a = true
theorem dataOf {B : Ty → Nat} {Gd : TypeId → Prop} (HB : BytesOk P B Gd) {base : Nat} {t : Ty} {id : TypeId} (hg : Gd id) (hok : Ok P t (.typ id)) (hr : readTy t = true) {v : Value} (hv : Value.okWide P w .any base id v) {d : DataW H} {ps : List MemPlace} (h : DataW.Trod enc P w 0 (fun _ => true) true id v d ps) :
    ∃ y : t.D, RepDV (fun _ => False) w t y v ∧ Wf t y ∧ (InrN N (d.weights P id) → WbN N B t y) := by
  obtain ⟨fuel, h⟩ := h
  obtain ⟨y, h1, h2⟩ := (read_all HB t).1 id fuel _ _ hg hok hr h
  refine ⟨y, ?_, h2⟩
  have one : isSt t = false → v.cells = #[v] → RepDV (fun _ => False) w t y v := by
    intro hs hc
    rw [hc] at h1
    exact .inr ⟨hs, h1⟩
  cases t with
  | unit => exact hok.elim
  | map _ _ => exact hok.elim
  | dmap _ _ => exact hok.elim
  | bld _ _ => exact hok.elim
  | pair a b => exact hok.elim
  | opq => simp [readTy] at hr
  | bool => obtain ⟨b, rfl⟩ := Go.WideShapes.okWide_bool hok.1 hv; exact one rfl rfl
  | int k => obtain ⟨n, rfl⟩ := Go.WideShapes.okWide_int hok.1 hv; exact one rfl rfl
  | str => obtain ⟨n, rfl⟩ := Go.WideShapes.okWide_string hok.1 hv; exact one rfl rfl
  | slice e => obtain ⟨⟨e', hu, _⟩, _⟩ := hok; obtain ⟨_, _, _, rfl⟩ := Go.WideShapes.okWide_slice hu hv; exact one rfl rfl
  | st b =>
    obtain ⟨hk, _⟩ := hok
    have : ∃ cs, v = .agg cs := by
      rcases hk with ⟨fs, hu, _⟩ | ⟨n, e, hu, _⟩
      · simp only [Value.okWide, hu] at hv
        obtain ⟨cs, e, _⟩ := hv
        exact ⟨cs, e⟩
      · simp only [Value.okWide, hu] at hv
        obtain ⟨cs, e, _⟩ := hv
        exact ⟨cs, e⟩
    obtain ⟨cs, rfl⟩ := this
    exact .inl ⟨rfl, cs, rfl, h1⟩
theorem argsOf {B : Ty → Nat} {Gd : TypeId → Prop} (HB : BytesOk P B Gd) {base : Nat} : ∀ (t : Ty) (ts : List TypeId) (vs : List Value) (ds : List (DataW H)) (ps : List MemPlace), (∀ u, u ∈ ts → Gd u) → ArgsOk P t ts → (∀ (j : Nat) id v, ts[j]? = some id → vs[j]? = some v → Value.okWide P w .any base id v) →
    DataW.TrodAll enc P w 0 (fun _ => true) true ts vs ds ps → ∃ x : t.D, RepT (cz (fun _ => False) w) (argAV t x) vs ∧ Wf t x ∧ (InrN N (DataW.weightsEach P ts ds) → WbN N B t x) := by
  have one : ∀ (t : Ty) (id : TypeId) (vs : List Value) (ds : List (DataW H)) (ps : List MemPlace), Gd id → Ok P t (.typ id) → readTy t = true → (∀ (j : Nat) id' v, [id][j]? = some id' → vs[j]? = some v → Value.okWide P w .any base id' v) →
      DataW.TrodAll enc P w 0 (fun _ => true) true [id] vs ds ps → ∃ x : t.D, RepT (cz (fun _ => False) w) (.data t x) vs ∧ Wf t x ∧ (InrN N (DataW.weightsEach P [id] ds) → WbN N B t x) := by
    intro t id vs ds ps hg hok hr hv h
    obtain ⟨v, vs', d, ds', p, q, rfl, rfl, rfl, h1, h2⟩ := trodAll_cons h
    obtain ⟨rfl, rfl, rfl⟩ := trodAll_nil h2
    obtain ⟨y, h3, h4, h5⟩ := dataOf HB hg hok hr (hv 0 id v rfl rfl) h1
    refine ⟨y, ?_, h4, fun hw => h5 ?_⟩
    · rw [repT_data, cz_Zeq]
      exact ⟨v, rfl, h3⟩
    · simp only [DataW.weightsEach] at hw
      exact hw.left
  intro t
  induction t with
  | unit =>
    intro ts vs ds ps hg ha hv h
    have ha : ts = [] := ha
    subst ha
    obtain ⟨rfl, rfl, rfl⟩ := trodAll_nil h
    exact ⟨(), by simp only [argAV, RepT], trivial, fun _ => trivial⟩
  | pair a b iha ihb =>
    intro ts vs ds ps hg ha hv h
    obtain ⟨id, r, rfl, hok, hr, hb⟩ := ha
    obtain ⟨v, vs', d, ds', p, q, rfl, rfl, rfl, h1, h2⟩ := trodAll_cons h
    obtain ⟨y, h3, h4, h7⟩ := dataOf HB (hg id (by simp)) hok hr (hv 0 id v rfl rfl) h1
    obtain ⟨z, h5, h6, h8⟩ := ihb r vs' ds' q (fun u hu => hg u (List.mem_cons_of_mem _ hu)) hb (fun j id' v' q1 q2 => hv (j + 1) id' v' (by simpa using q1) (by simpa using q2)) h2
    refine ⟨(y, z), ?_, ⟨h4, h6⟩, fun hw => by
      simp only [DataW.weightsEach] at hw
      exact ⟨h7 hw.left, h8 hw.right⟩⟩
    simp only [argAV, RepT, RepV]
    rw [cz_Zeq]
    exact ⟨v, vs', rfl, h3, h5⟩
  | bool => intro ts vs ds ps hg ha hv h; obtain ⟨id, rfl, hok, hr⟩ := ha; exact one _ id vs ds ps (hg id (by simp)) hok hr hv h
  | int k => intro ts vs ds ps hg ha hv h; obtain ⟨id, rfl, hok, hr⟩ := ha; exact one _ id vs ds ps (hg id (by simp)) hok hr hv h
  | str => intro ts vs ds ps hg ha hv h; obtain ⟨id, rfl, hok, hr⟩ := ha; exact one _ id vs ds ps (hg id (by simp)) hok hr hv h
  | opq => intro ts vs ds ps hg ha hv h; obtain ⟨id, rfl, hok, hr⟩ := ha; exact one _ id vs ds ps (hg id (by simp)) hok hr hv h
  | map _ _ _ _ => intro ts vs ds ps hg ha hv h; obtain ⟨id, rfl, hok, hr⟩ := ha; exact one _ id vs ds ps (hg id (by simp)) hok hr hv h
  | dmap _ _ _ _ => intro ts vs ds ps hg ha hv h; obtain ⟨id, rfl, hok, hr⟩ := ha; exact one _ id vs ds ps (hg id (by simp)) hok hr hv h
  | bld _ _ => intro ts vs ds ps hg ha hv h; obtain ⟨id, rfl, hok, hr⟩ := ha; exact one _ id vs ds ps (hg id (by simp)) hok hr hv h
  | slice e _ => intro ts vs ds ps hg ha hv h; obtain ⟨id, rfl, hok, hr⟩ := ha; exact one _ id vs ds ps (hg id (by simp)) hok hr hv h
  | st b _ => intro ts vs ds ps hg ha hv h; obtain ⟨id, rfl, hok, hr⟩ := ha; exact one _ id vs ds ps (hg id (by simp)) hok hr hv h
theorem argsBack {W W' : World} (hl : laidOutB P = true) (hb : Below W.heap.size W W') : ∀ (ts : List TypeId) (vs : List Value) (ds : List (DataW H)) (ps : List MemPlace), (∀ t, t ∈ ts → P.readableRec t = true ∧ t < P.types.size) →
    DataW.TrodAll enc P W 0 (fun _ => true) true ts vs ds ps → DataW.TrodAll enc P W' 0 (fun b => decide (b < W.heap.size)) true ts vs ds ps := by
  intro ts
  induction ts with
  | nil => intro vs ds ps _ h; obtain ⟨rfl, rfl, rfl⟩ := trodAll_nil h; exact trodAll_mk0
  | cons t ts ih =>
    intro vs ds ps ht h
    obtain ⟨v, vs', d, ds', p, q, rfl, rfl, rfl, h1, h2⟩ := trodAll_cons h
    have hlt : ∀ x ∈ p, x.block < W.heap.size := by
      obtain ⟨m, hm⟩ := h1
      exact DataW.trod_lt m _ _ _ hm
    obtain ⟨r1, r2⟩ := ht t (by simp)
    exact trodAll_cons_mk (Below.trod hl r1 r2 h1 hb hlt) (ih vs' ds' q (fun u hu => ht u (List.mem_cons_of_mem _ hu)) h2)
theorem rowContractG {G : World → Prop} {f : FuncId} {fn : Func} {t : Ty} {F : t.D → Option Bool} {rt : TypeId} {s : ChangeSpec} {base : Nat} {W : World} {args : Array Value} {ds gs : List (DataW H)} {before : List MemPlace}
    (hs : SpecOk P G f ⟨t, .bool, F⟩) (hl : laidOutB P = true) (hp : ArgsOk P t fn.params.toList) (hread : ∀ t, t ∈ fn.params.toList → P.readableRec t = true ∧ t < P.types.size)
    (hres : fn.resultTypes = #[rt]) (hrt : P.underlying rt = some .bool) (hvars : s.vars = []) (hfn : ∀ ds : List (DataW H), ds.length = fn.params.toList.length → s.fn H ds = { results := [.lit (.bool true)], args := ds })
    (hval : ∀ (j : Nat) t v, fn.params[j]? = some t → args[j]? = some v → Value.okWide P W .any base t v) (hW : DataW.Whole enc P fn.params.toList s.vars false W args.toList ds gs before)
    (hF : ∀ x, Wf t x → F x = some true) (hG : G W) :
    Calls P f args W fun e W' => ∃ v, e = .returned v ∧ s.post enc P fn false true false false W args v W' := by
  have hW' := hW
  obtain ⟨p, q, hA, hV, rfl, hfz, hnd⟩ := hW
  rw [hvars] at hV
  obtain ⟨rfl, rfl⟩ := trodVars_none hV
  obtain ⟨x, hx, hwf, _⟩ := argsOf (N := reachBytes) (B := fun _ => 0) (Gd := fun _ => True) ⟨fun _ _ _ _ => ⟨trivial, fun _ _ => Nat.zero_le _⟩, fun _ _ _ _ _ _ => trivial, fun _ _ _ _ _ => trivial⟩ t _ _ _ _ (fun _ _ => trivial) hp (fun j id v h1 h2 => hval j id v (by rw [← Array.getElem?_toList]; exact h1) (by rw [← Array.getElem?_toList]; exact h2)) hA
  refine (hs (fun _ => False) W args x true hG (fun _ h => h.elim) (hF x hwf) hx).mono fun e W' ⟨v, he, bel, hv⟩ => ⟨v, he, ?_⟩
  have hv : v = .bool true := repV_bool (by simpa only [resAV] using hv)
  subst hv
  have hlen : ds.length = fn.params.toList.length := by
    have : ∀ (ts : List TypeId) (vs : List Value) (ds : List (DataW H)) (ps : List MemPlace), DataW.TrodAll enc P W 0 (fun _ => true) true ts vs ds ps → ds.length = ts.length := by
      intro ts
      induction ts with
      | nil => intro vs ds ps h; obtain ⟨_, rfl, _⟩ := trodAll_nil h; rfl
      | cons t ts ih =>
        intro vs ds ps h
        obtain ⟨v, vs', d, ds', p, q, rfl, rfl, rfl, h1, h2⟩ := trodAll_cons h
        simp [ih _ _ _ h2]
    exact this _ _ _ _ hA
  refine ⟨ds, [], _, [], p, [], hW', ?_, ?_, ?_, bel.frame _, fun h => by cases h⟩
  · rw [List.append_nil, hfn ds hlen, hres]
    exact trodAll_mk1 (shut_bool hrt _)
  · rw [List.append_nil, hfn ds hlen]
    exact argsBack hl bel _ _ _ _ hread hA
  · rw [List.append_nil, hfn ds hlen, hvars]
    rfl
end Go.PG
namespace Go.PG
def argsOkB (P : Program) : Ty → List TypeId → Bool
  | .unit, ts => match ts with
    | [] => true
    | _ => false
  | .pair a b, ts => match ts with
    | t :: r => match okB P a (.typ t), readTy a with
      | true, true => argsOkB P b r
      | _, _ => false
    | [] => false
  | a, ts => match ts with
    | [t] => match okB P a (.typ t), readTy a with
      | true, true => true
      | _, _ => false
    | _ => false
theorem ArgsOk.of_b {P : Program} : ∀ {t : Ty} {ts : List TypeId}, argsOkB P t ts = true → ArgsOk P t ts := by
  have one : ∀ {a : Ty} {ts : List TypeId}, (match ts with
      | [t] => match okB P a (.typ t), readTy a with
        | true, true => true
        | _, _ => false
      | _ => false) = true → ∃ t, ts = [t] ∧ Ok P a (.typ t) ∧ readTy a = true := by
    intro a ts h
    split at h
    · rename_i t
      split at h
      · rename_i h1 h2
        exact ⟨t, rfl, okB_spec h1, h2⟩
      · cases h
    · cases h
  intro t
  induction t with
  | unit =>
    intro ts h
    simp only [argsOkB] at h
    split at h
    · rfl
    · cases h
  | pair a b _ ihb =>
    intro ts h
    simp only [argsOkB] at h
    split at h
    · split at h
      · rename_i h1 h2
        exact ⟨_, _, rfl, okB_spec h1, h2, ihb h⟩
      · cases h
    · cases h
  | _ => intro ts h; exact one (by simpa only [argsOkB] using h)
def readB (P : Program) : List TypeId → Bool
  | [] => true
  | t :: r => match P.readableRec t, Nat.blt t P.types.size with
    | true, true => readB P r
    | _, _ => false
theorem readable_of_b {P : Program} : ∀ {ts : List TypeId}, readB P ts = true → ∀ t, t ∈ ts → P.readableRec t = true ∧ t < P.types.size := by
  intro ts
  induction ts with
  | nil => intro _ t h; cases h
  | cons u r ih =>
    intro h t ht
    simp only [readB] at h
    split at h
    · rename_i h1 h2
      rcases List.mem_cons.1 ht with rfl | ht
      · exact ⟨h1, by simpa [Nat.blt_eq] using h2⟩
      · exact ih h t ht
    · cases h
end Go.PG
end
section
namespace Go.PG
variable {P : Program}
end Go.PG
end
section
namespace Go.PG
open Go.RowKit Go.ChangeShapes
variable {P : Program} {w : World} {H : Type} {enc : TypeId × Value → H}
end Go.PG
end
section
namespace Go.Proofs
open Go.Shelf
def Tryd.lays156_ren : Go.Shelf.Ren := ⟨fun | 156 => 33 | 165 => 53 | 166 => 54 | 169 => 55 | 240 => 69 | 241 => 70 | 276 => 77 | 277 => 78 | n => n, fun | 31 => 53 | 9 => 9 | 3 => 3 | 4 => 4 | 0 => 0 | 20 => 20 | 72 => 74 | 76 => 78 | 70 => 71 | 37 => 72 | 75 => 77 | 127 => 88 | 164 => 94 | 5 => 5 | 80 => 80 | n => n, fun | n => n⟩
theorem Tryd.lays156 : Go.Proofs.Lays.n156 Tryd.prog Tryd.lays156_ren := {
  mixed := by kernel_rfl
  f156 := Tryd.func33.trans (congrArg some (by kernel_rfl))
  f165 := Tryd.func53.trans (congrArg some (by kernel_rfl))
  f166 := Tryd.func54.trans (congrArg some (by kernel_rfl))
  f169 := Tryd.func55.trans (congrArg some (by kernel_rfl))
  f240 := Tryd.func69.trans (congrArg some (by kernel_rfl))
  f241 := Tryd.func70.trans (congrArg some (by kernel_rfl))
  f276 := Tryd.func77.trans (congrArg some (by kernel_rfl))
  f277 := Tryd.func78.trans (congrArg some (by kernel_rfl))
  t0 := Tryd.underlying0
  a0 := Tryd.isAgg0
  z0 := Tryd.sizeOf0
  v0 := Tryd.zeroValue0
  t3 := Tryd.underlying3
  a3 := Tryd.isAgg3
  z3 := Tryd.sizeOf3
  v3 := Tryd.zeroValue3
  t4 := Tryd.underlying4
  a4 := Tryd.isAgg4
  z4 := Tryd.sizeOf4
  v4 := Tryd.zeroValue4
  t9 := Tryd.underlying9
  a9 := Tryd.isAgg9
  z9 := Tryd.sizeOf9
  v9 := Tryd.zeroValue9
  t20 := Tryd.underlying20
  a20 := Tryd.isAgg20
  z20 := Tryd.sizeOf20
  v20 := Tryd.zeroValue20
  t31 := Tryd.underlying53
  a31 := Tryd.isAgg53
  z31 := Tryd.sizeOf53
  v31 := Tryd.zeroValue53
  t37 := Tryd.underlying72
  a37 := Tryd.isAgg72
  z37 := Tryd.sizeOf72
  v37 := Tryd.zeroValue72
  t70 := Tryd.underlying71
  a70 := Tryd.isAgg71
  z70 := Tryd.sizeOf71
  v70 := Tryd.zeroValue71
  t72 := Tryd.underlying74
  a72 := Tryd.isAgg74
  z72 := Tryd.sizeOf74
  v72 := Tryd.zeroValue74
  t75 := Tryd.underlying77
  a75 := Tryd.isAgg77
  z75 := Tryd.sizeOf77
  v75 := Tryd.zeroValue77
  t76 := Tryd.underlying78
  a76 := Tryd.isAgg78
  z76 := Tryd.sizeOf78
  v76 := Tryd.zeroValue78
  t127 := Tryd.underlying88
  a127 := Tryd.isAgg88
  z127 := Tryd.sizeOf88
  v127 := Tryd.zeroValue88
  t164 := Tryd.underlying94
  a164 := Tryd.isAgg94
  z164 := Tryd.sizeOf94
  v164 := Tryd.zeroValue94 }
theorem Tryd.Builder_Extra_156 : Builder.Extra Tryd.prog Tryd.lays156_ren := {
  sizeBuilder := by kernel_rfl
  liesBuilder := by kernel_rfl
  t5 := Tryd.underlying5
  a5 := Tryd.isAgg5
  z5 := Tryd.sizeOf5
  v5 := Tryd.zeroValue5
  infoByte := by kernel_rfl
  cellsByte := by kernel_rfl
  sizeByte := by kernel_rfl
  neB5 := by decide }
open Go.RowKit in
theorem Tryd.strings_Join_none (a : Option Addr) (c : Nat) (sep : ByteArray) (w : World) :
    Calls Tryd.prog 33 #[.slice a 0 c, .string sep] w fun e w' => e = .returned (.string ⟨#[]⟩) ∧ w' = w := Any.strings_Join_none Tryd.lays156 Tryd.Builder_Extra_156 a c sep w
open Go.RowKit in
theorem Tryd.strings_Join (bk o c : Nat) (xs : List ByteArray) (sep : ByteArray) (w : World) (hcells : ∀ (j : Nat) x, xs[j]? = some x → w.cell? ⟨bk, o + j, none⟩ = some (.string x)) (hbk : bk < w.heap.size) (hN : xs.length ≤ 140737488355328) (hcap : xs.length ≤ c) (hlen : (Lib.join (xs.map (·.data.toList)) sep.data.toList).length ≤ 140737488355328) :
    Calls Tryd.prog 33 #[.slice (some ⟨bk, o, none⟩) xs.length c, .string sep] w fun e w' => e = .returned (.string ⟨(Lib.join (xs.map (·.data.toList)) sep.data.toList).toArray⟩) ∧ Below w.heap.size w w' := Any.strings_Join Tryd.lays156 Tryd.Builder_Extra_156 bk o c xs sep w hcells hbk hN hcap hlen
def Tryd.laysM171_ren : Go.Shelf.Ren := ⟨fun | 171 => 46 | 243 => 60 | 246 => 76 | 283 => 81 | 284 => 82 | 285 => 83 | 286 => 84 | 129 => 88 | 317 => 87 | 318 => 89 | 319 => 90 | 320 => 91 | 337 => 92 | 338 => 93 | n => n, fun | 3 => 3 | 9 => 9 | 2 => 2 | 4 => 4 | 171 => 98 | 0 => 0 | 53 => 86 | 37 => 72 | 5 => 5 | 173 => 101 | 212 => 106 | 51 => 107 | 20 => 20 | 213 => 108 | 46 => 97 | 232 => 112 | 233 => 113 | n => n, fun | 17 => 1 | 18 => 2 | 19 => 3 | n => n⟩
theorem Tryd.laysM171 : Go.Proofs.LaysM.n171 Tryd.prog Tryd.laysM171_ren := {
  mixed := by kernel_rfl
  f129 := Tryd.func88.trans (congrArg some (by kernel_rfl))
  f171 := Tryd.func46.trans (congrArg some (by kernel_rfl))
  f243 := Tryd.func60.trans (congrArg some (by kernel_rfl))
  f246 := Tryd.func76.trans (congrArg some (by kernel_rfl))
  f283 := Tryd.func81.trans (congrArg some (by kernel_rfl))
  f284 := Tryd.func82.trans (congrArg some (by kernel_rfl))
  f285 := Tryd.func83.trans (congrArg some (by kernel_rfl))
  f286 := Tryd.func84.trans (congrArg some (by kernel_rfl))
  f317 := Tryd.func87.trans (congrArg some (by kernel_rfl))
  f318 := Tryd.func89.trans (congrArg some (by kernel_rfl))
  f319 := Tryd.func90.trans (congrArg some (by kernel_rfl))
  f320 := Tryd.func91.trans (congrArg some (by kernel_rfl))
  f337 := Tryd.func92.trans (congrArg some (by kernel_rfl))
  f338 := Tryd.func93.trans (congrArg some (by kernel_rfl))
  t0 := Tryd.underlying0
  a0 := Tryd.isAgg0
  z0 := Tryd.sizeOf0
  v0 := Tryd.zeroValue0
  t2 := Tryd.underlying2
  a2 := Tryd.isAgg2
  z2 := Tryd.sizeOf2
  v2 := Tryd.zeroValue2
  t3 := Tryd.underlying3
  a3 := Tryd.isAgg3
  z3 := Tryd.sizeOf3
  v3 := Tryd.zeroValue3
  t4 := Tryd.underlying4
  a4 := Tryd.isAgg4
  z4 := Tryd.sizeOf4
  v4 := Tryd.zeroValue4
  t5 := Tryd.underlying5
  a5 := Tryd.isAgg5
  z5 := Tryd.sizeOf5
  v5 := Tryd.zeroValue5
  t9 := Tryd.underlying9
  a9 := Tryd.isAgg9
  z9 := Tryd.sizeOf9
  v9 := Tryd.zeroValue9
  t20 := Tryd.underlying20
  a20 := Tryd.isAgg20
  z20 := Tryd.sizeOf20
  v20 := Tryd.zeroValue20
  t37 := Tryd.underlying72
  a37 := Tryd.isAgg72
  z37 := Tryd.sizeOf72
  v37 := Tryd.zeroValue72
  t46 := Tryd.underlying97
  a46 := Tryd.isAgg97
  z46 := Tryd.sizeOf97
  v46 := Tryd.zeroValue97
  t51 := Tryd.underlying107
  a51 := Tryd.isAgg107
  z51 := Tryd.sizeOf107
  v51 := Tryd.zeroValue107
  t53 := Tryd.underlying86
  a53 := Tryd.isAgg86
  z53 := Tryd.sizeOf86
  v53 := Tryd.zeroValue86
  t171 := Tryd.underlying98
  a171 := Tryd.isAgg98
  z171 := Tryd.sizeOf98
  v171 := Tryd.zeroValue98
  t173 := Tryd.underlying101
  a173 := Tryd.isAgg101
  z173 := Tryd.sizeOf101
  v173 := Tryd.zeroValue101
  t212 := Tryd.underlying106
  a212 := Tryd.isAgg106
  z212 := Tryd.sizeOf106
  v212 := Tryd.zeroValue106
  t213 := Tryd.underlying108
  a213 := Tryd.isAgg108
  z213 := Tryd.sizeOf108
  t232 := Tryd.underlying112
  a232 := Tryd.isAgg112
  z232 := Tryd.sizeOf112
  v232 := Tryd.zeroValue112
  t233 := Tryd.underlying113
  a233 := Tryd.isAgg113
  z233 := Tryd.sizeOf113
  v233 := Tryd.zeroValue113
  g17 := by kernel_rfl
  g18 := by kernel_rfl
  g19 := by kernel_rfl
  i0 := by kernel_rfl
  i2 := by kernel_rfl
  i3 := by kernel_rfl
  i4 := by kernel_rfl
  i5 := by kernel_rfl
  i9 := by kernel_rfl
  i20 := by kernel_rfl
  i37 := by kernel_rfl
  i46 := by kernel_rfl
  i51 := by kernel_rfl
  i53 := by kernel_rfl
  i171 := by kernel_rfl
  i173 := by kernel_rfl
  i212 := by kernel_rfl
  i232 := by kernel_rfl
  i233 := by kernel_rfl
  m17 := by kernel_rfl
  m18 := by kernel_rfl
  m19 := by kernel_rfl }
open Go.RowKit Go.Sort Go.Lib in
theorem Tryd.strconv_Itoa (n : Int) (h0 : -9223372036854775808 ≤ n) (h1 : n ≤ 9223372036854775807) (w : World) (htab : Lib.TabIs Tryd.prog w "internal/strconv.uint64pow10" .u64 Lib.pow10Tab) :
    Calls Tryd.prog 46 #[.int .i64 n] w fun e w' => e = .returned (.string ⟨(Lib.itoa n).toArray⟩) ∧ ∃ k os, w' = grow (w.drewN k) os := Any.strconv_Itoa Tryd.laysM171 n h0 h1 w htab
end Go.Proofs
end
section
open Go Go.PG Go.Proofs
set_option linter.all false
set_option maxRecDepth 1000000
set_option maxHeartbeats 4000000
abbrev T_api_Val : Ty := .st (.pair (.int .i64) (.int .i64))
abbrev T_family_member : Ty := .st (.pair (.slice .str) (.pair T_api_Val (.int .i64)))
noncomputable def T : List (Nat × TyRow) := [(3, ⟨(.int .i64), 0, false, false⟩), (4, ⟨.bool, 0, false, false⟩), (9, ⟨.str, 0, false, false⟩), (25, ⟨T_api_Val, 0, true, false⟩), (29, ⟨(.st (.pair (.int .i64) (.pair (.int .i64) (.pair (.int .i64) (.int .i64))))), 0, false, true⟩), (53, ⟨(.slice .str), 16, false, false⟩), (55, ⟨T_family_member, 0, false, false⟩), (59, ⟨.opq, 0, false, false⟩), (60, ⟨(.slice (.int .i64)), 8, false, false⟩), (69, ⟨.opq, 0, false, false⟩), (70, ⟨(.st (.pair .opq (.pair .opq (.pair .opq (.pair .opq .opq))))), 0, false, true⟩), (86, ⟨(.int .u64), 0, false, false⟩)]
theorem mixedOk : Tryd.prog.follows .mixedOrders = true := by kernel_rfl
theorem tabOk : tysB Tryd.prog T = true := by kernel_rfl
abbrev GG (w : World) : Prop := Lib.TabIs Tryd.prog w "internal/strconv.uint64pow10" .u64 Lib.pow10Tab
theorem f64_at : Tryd.prog.funcs[64]? = some Tryd.f64 := by kernel_rfl
theorem f64_ok : (Tryd.f64.name != "runtime.NumGoroutine" && Tryd.f64.body.isSome) = true := by kernel_rfl
theorem f65_at : Tryd.prog.funcs[65]? = some Tryd.f65 := by kernel_rfl
theorem f65_ok : (Tryd.f65.name != "runtime.NumGoroutine" && Tryd.f65.body.isSome) = true := by kernel_rfl
theorem f48_at : Tryd.prog.funcs[48]? = some Tryd.f48 := by kernel_rfl
theorem f48_ok : (Tryd.f48.name != "runtime.NumGoroutine" && Tryd.f48.body.isSome) = true := by kernel_rfl
theorem f49_at : Tryd.prog.funcs[49]? = some Tryd.f49 := by kernel_rfl
theorem f49_ok : (Tryd.f49.name != "runtime.NumGoroutine" && Tryd.f49.body.isSome) = true := by kernel_rfl
theorem f50_at : Tryd.prog.funcs[50]? = some Tryd.f50 := by kernel_rfl
theorem f50_ok : (Tryd.f50.name != "runtime.NumGoroutine" && Tryd.f50.body.isSome) = true := by kernel_rfl
theorem f51_at : Tryd.prog.funcs[51]? = some Tryd.f51 := by kernel_rfl
theorem f51_ok : (Tryd.f51.name != "runtime.NumGoroutine" && Tryd.f51.body.isSome) = true := by kernel_rfl
theorem f52_at : Tryd.prog.funcs[52]? = some Tryd.f52 := by kernel_rfl
theorem f52_ok : (Tryd.f52.name != "runtime.NumGoroutine" && Tryd.f52.body.isSome) = true := by kernel_rfl
theorem f32_at : Tryd.prog.funcs[32]? = some Tryd.f32 := by kernel_rfl
theorem f32_ok : (Tryd.f32.name != "runtime.NumGoroutine" && Tryd.f32.body.isSome) = true := by kernel_rfl
theorem f10_at : Tryd.prog.funcs[10]? = some Tryd.f10 := by kernel_rfl
theorem f10_ok : (Tryd.f10.name != "runtime.NumGoroutine" && Tryd.f10.body.isSome) = true := by kernel_rfl
theorem f12_at : Tryd.prog.funcs[12]? = some Tryd.f12 := by kernel_rfl
theorem f12_ok : (Tryd.f12.name != "runtime.NumGoroutine" && Tryd.f12.body.isSome) = true := by kernel_rfl
theorem f14_at : Tryd.prog.funcs[14]? = some Tryd.f14 := by kernel_rfl
theorem f14_ok : (Tryd.f14.name != "runtime.NumGoroutine" && Tryd.f14.body.isSome) = true := by kernel_rfl
theorem f9_at : Tryd.prog.funcs[9]? = some Tryd.f9 := by kernel_rfl
theorem f9_ok : (Tryd.f9.name != "runtime.NumGoroutine" && Tryd.f9.body.isSome) = true := by kernel_rfl
theorem f34_at : Tryd.prog.funcs[34]? = some Tryd.f34 := by kernel_rfl
theorem f34_ok : (Tryd.f34.name != "runtime.NumGoroutine" && Tryd.f34.body.isSome) = true := by kernel_rfl
theorem f61_at : Tryd.prog.funcs[61]? = some Tryd.f61 := by kernel_rfl
theorem f61_ok : (Tryd.f61.name != "runtime.NumGoroutine" && Tryd.f61.body.isSome) = true := by kernel_rfl
theorem f47_at : Tryd.prog.funcs[47]? = some Tryd.f47 := by kernel_rfl
theorem f47_ok : (Tryd.f47.name != "runtime.NumGoroutine" && Tryd.f47.body.isSome) = true := by kernel_rfl
theorem f35_at : Tryd.prog.funcs[35]? = some Tryd.f35 := by kernel_rfl
theorem f35_ok : (Tryd.f35.name != "runtime.NumGoroutine" && Tryd.f35.body.isSome) = true := by kernel_rfl
theorem f11_at : Tryd.prog.funcs[11]? = some Tryd.f11 := by kernel_rfl
theorem f11_ok : (Tryd.f11.name != "runtime.NumGoroutine" && Tryd.f11.body.isSome) = true := by kernel_rfl
theorem f13_at : Tryd.prog.funcs[13]? = some Tryd.f13 := by kernel_rfl
theorem f13_ok : (Tryd.f13.name != "runtime.NumGoroutine" && Tryd.f13.body.isSome) = true := by kernel_rfl
theorem f15_at : Tryd.prog.funcs[15]? = some Tryd.f15 := by kernel_rfl
theorem f15_ok : (Tryd.f15.name != "runtime.NumGoroutine" && Tryd.f15.body.isSome) = true := by kernel_rfl
theorem f3_at : Tryd.prog.funcs[3]? = some Tryd.f3 := by kernel_rfl
theorem f4_at : Tryd.prog.funcs[4]? = some Tryd.f4 := by kernel_rfl
theorem f62_at : Tryd.prog.funcs[62]? = some Tryd.f62 := by kernel_rfl
theorem f62_ok : (Tryd.f62.name != "runtime.NumGoroutine" && Tryd.f62.body.isSome) = true := by kernel_rfl
theorem f63_at : Tryd.prog.funcs[63]? = some Tryd.f63 := by kernel_rfl
theorem f63_ok : (Tryd.f63.name != "runtime.NumGoroutine" && Tryd.f63.body.isSome) = true := by kernel_rfl
theorem f66_at : Tryd.prog.funcs[66]? = some Tryd.f66 := by kernel_rfl
theorem f66_ok : (Tryd.f66.name != "runtime.NumGoroutine" && Tryd.f66.body.isSome) = true := by kernel_rfl
theorem f67_at : Tryd.prog.funcs[67]? = some Tryd.f67 := by kernel_rfl
theorem f67_ok : (Tryd.f67.name != "runtime.NumGoroutine" && Tryd.f67.body.isSome) = true := by kernel_rfl
theorem f68_at : Tryd.prog.funcs[68]? = some Tryd.f68 := by kernel_rfl
theorem f68_ok : (Tryd.f68.name != "runtime.NumGoroutine" && Tryd.f68.body.isSome) = true := by kernel_rfl
theorem f46_at : Tryd.prog.funcs[46]? = some Tryd.f46 := by kernel_rfl
theorem f46_ok : (Tryd.f46.name != "runtime.NumGoroutine" && Tryd.f46.body.isSome) = true := by kernel_rfl
theorem f33_at : Tryd.prog.funcs[33]? = some Tryd.f33 := by kernel_rfl
theorem f33_ok : (Tryd.f33.name != "runtime.NumGoroutine" && Tryd.f33.body.isSome) = true := by kernel_rfl
noncomputable def codes : List (Nat × Func × List (Nat × Hint)) := [(62, Tryd.f62, [(3, ⟨[.var 7 (.o .str), .var 8 (.d (.int .i64))], [], (some (0, [.var 7 (.o .str)]))⟩)]), (63, Tryd.f63, []), (66, Tryd.f66, []), (67, Tryd.f67, []), (68, Tryd.f68, [])]
theorem codesOk : CodesOk Tryd.prog codes := .cons f62_at f62_ok <| .cons f63_at f63_ok <| .cons f66_at f66_ok <| .cons f67_at f67_ok <| .cons f68_at f68_ok <| .nil
theorem ggKeep : ∀ w w' : World, GG w → Go.RowKit.Below w.heap.size w w' → GG w' := fun w w' h hb => by
  show World.var? Tryd.prog w' _ = _
  have h : World.var? Tryd.prog w _ = _ := h
  unfold World.var? at h ⊢
  cases hg : Tryd.prog.globalNamed "internal/strconv.uint64pow10" with
  | none => rw [hg] at h; cases h
  | some g =>
    rw [hg] at h
    simp only [Option.bind_some] at h ⊢
    have hlt : g < w.heap.size := by
      rcases Nat.lt_or_ge g w.heap.size with q | q
      · exact q
      · rw [Array.getElem?_eq_none q] at h; cases h
    rw [hb.block g hlt]
    exact h
def strconv_Itoa (_k : Nat) (n : Int) : Option ByteArray := if -9223372036854775808 ≤ n ∧ n ≤ 9223372036854775807 then some ⟨(Lib.itoa n).toArray⟩ else none
theorem strconv_Itoa_spec (k : Nat) : SpecOk Tryd.prog GG 46 ⟨(.int .i64), .str, strconv_Itoa k⟩ := by
  intro Z w vals x r hG _ hx ha
  simp only [strconv_Itoa] at hx
  split at hx
  case isFalse => cases hx
  rename_i hb
  injection hx with hx
  simp only [argAV, RepT] at ha
  obtain ⟨v1, e1, h1⟩ := ha
  have h1 := repV_int (k := .i64) (n := x) (by simpa only [RepV] using h1)
  subst h1
  obtain rfl : vals = #[.int .i64 x] := Array.toList_inj.1 (by simpa using e1)
  refine (Tryd.strconv_Itoa x hb.1 hb.2 w hG).mono fun e w' ⟨he, k, os, hw⟩ => ⟨_, he, ?_, ?_⟩
  · rw [hw]
    refine ⟨rfl, rfl, rfl, ?_, fun j hj => ?_⟩
    · show w.heap.size ≤ (w.heap ++ os).size
      simp
    · show (w.heap ++ os)[j]? = w.heap[j]?
      exact Array.getElem?_append_left hj
  · rw [← hx]; simp [resAV, RepV, RepD, isSt]
def strings_Join (_k : Nat) (x : List ByteArray × ByteArray) : Option ByteArray := if x.1.length ≤ 140737488355328 ∧ (Lib.join (x.1.map fun b => b.data.toList) x.2.data.toList).length ≤ 140737488355328 then some ⟨(Lib.join (x.1.map fun b => b.data.toList) x.2.data.toList).toArray⟩ else none
theorem strings_Join_spec (k : Nat) : SpecOk Tryd.prog GG 33 ⟨(.pair (.slice .str) .str), .str, strings_Join k⟩ := by
  intro Z w vals x r _ _ hx ha
  simp only [strings_Join] at hx
  split at hx
  case isFalse => cases hx
  rename_i hb
  injection hx with hx
  simp only [argAV, RepT] at ha
  obtain ⟨v1, l1, e1, h1, h2⟩ := ha
  obtain ⟨v2, rfl, h2⟩ := h2
  have h2 : v2 = .string x.2 := repV_str (c := cz Z w) (by simpa only [RepV] using h2)
  subst h2
  rcases repV_data h1 with ⟨q, _⟩ | ⟨_, q⟩
  · cases q
  simp only [RepD] at q
  obtain ⟨A, cap, ev, hle, hel⟩ := q
  obtain rfl : v1 = .slice A x.1.length cap := by simpa using ev
  obtain rfl : vals = #[.slice A x.1.length cap, .string x.2] := Array.toList_inj.1 (by simpa using e1)
  rcases hel with hnil | ⟨b, o, rfl, hbw, _, hel⟩
  · rw [hnil]
    refine (Tryd.strings_Join_none A cap x.2 w).mono fun e w' ⟨he, hw⟩ => ⟨_, he, ?_, ?_⟩
    · rw [hw]; exact Go.RowKit.Below.refl _ _
    · rw [← hx, hnil]; simp [resAV, RepV, RepD, isSt, Lib.join_nil]
  · refine (Tryd.strings_Join b o cap x.1 x.2 w (fun j y hy => ?_) hbw hb.1 hle hb.2).mono fun e w' ⟨he, hw⟩ => ⟨_, he, hw, ?_⟩
    · obtain ⟨c, hc, hm⟩ := hel j y hy
      subst hc
      have := hm 0 (.string y) rfl
      have this : w.cell? ⟨b, o + j * 1 + 0, none⟩ = some (.string y) := this
      rw [Nat.mul_one, Nat.add_zero] at this
      exact this
    · rw [← hx]; simp [resAV, RepV, RepD, isSt]
noncomputable abbrev EN (k : Nat) (sp : List (Nat × Go.PG.Spec)) : Go.PG.Env := { T := T, specs := sp, codes := codes, k := k, calm := [62] }
noncomputable def family_d : (k : Nat) → (Ty.D (.int .i64)) → Option (Ty.D .str) := fun (k : Nat) (x : (Ty.int IntKind.i64).D) => P.bind (strconv_Itoa k x) fun (r : ByteArray) => some r
theorem family_d_eq (k : Nat) (x : (Ty.D (.int .i64))) : evFn (EN k [(46, ⟨(.int .i64), .str, strconv_Itoa k⟩)]) 6 Tryd.f64 [] (.int .i64) .str x = family_d k x := by kernel_rfl
theorem family_d_spec (k : Nat) : SpecOk Tryd.prog GG 64 ⟨(.int .i64), .str, family_d k⟩ :=
  fn_spec (envOk (E := EN k [(46, ⟨(.int .i64), .str, strconv_Itoa k⟩)]) tabOk (.cons (strconv_Itoa_spec k) f46_at f46_ok <| .nil) codesOk mixedOk ggKeep) f64_at (fun x => (family_d_eq k x).symm)
noncomputable def family_num : (k : Nat) → (Ty.D (.int .i64)) → Option (Ty.D T_api_Val) := fun (k : Nat) (x : (Ty.int IntKind.i64).D) => some ((2 : Int), x)
theorem family_num_eq (k : Nat) (x : (Ty.D (.int .i64))) : evFn (EN k []) 6 Tryd.f65 [] (.int .i64) T_api_Val x = family_num k x := by kernel_rfl
theorem family_num_spec (k : Nat) : SpecOk Tryd.prog GG 65 ⟨(.int .i64), T_api_Val, family_num k⟩ :=
  fn_spec (envOk (E := EN k []) tabOk (.nil) codesOk mixedOk ggKeep) f65_at (fun x => (family_num_eq k x).symm)
noncomputable def family_fields : (k : Nat) → (Ty.D (.int .i64)) → Option (Ty.D T_family_member) := fun (k : Nat) (x : (Ty.int IntKind.i64).D) => P.bind (P.iter k (fun (y : List ByteArray × Int) => P.cond (P.ile y.snd (P.wrap IntKind.i64 (P.sub x ((1 : Int))))) (P.bind (family_d k y.snd) fun (r : ByteArray) => P.cond (P.sfit (ByteArray.mk #[112]) r) (P.cond (P.sfit (P.scat (ByteArray.mk #[112]) r) (ByteArray.mk #[32, 58, 32])) (P.bind (family_d k y.snd) fun (r_1 : ByteArray) => P.cond (P.sfit (P.scat (P.scat (ByteArray.mk #[112]) r) (ByteArray.mk #[32, 58, 32])) r_1) (P.cond (P.room (P.add (P.len y.fst) (P.len [P.scat (P.scat (P.scat (ByteArray.mk #[112]) r) (ByteArray.mk #[32, 58, 32])) r_1])) 16) (some (Sum.inl (P.app y.fst [P.scat (P.scat (P.scat (ByteArray.mk #[112]) r) (ByteArray.mk #[32, 58, 32])) r_1], P.wrap IntKind.i64 (P.add y.snd ((1 : Int)))))) none) none) none) none) (some (Sum.inr (Sum.inl y.fst)))) ([], (0 : Int))) (P.either (fun (z : List ByteArray) => P.bind (strings_Join k (z, (ByteArray.mk #[32, 44, 32]))) fun (r : ByteArray) => P.cond (P.sfit (ByteArray.mk #[111, 32, 61, 32, 110, 101, 119, 32, 123, 32]) r) (P.cond (P.sfit (P.scat (ByteArray.mk #[111, 32, 61, 32, 110, 101, 119, 32, 123, 32]) r) (ByteArray.mk #[32, 125, 32, 112, 114, 111, 116, 111, 32, 110, 117, 108, 108, 32, 59])) (P.bind (family_d k (P.wrap IntKind.i64 (P.sub x ((1 : Int))))) fun (r_1 : ByteArray) => P.cond (P.sfit (ByteArray.mk #[121, 32, 61, 32, 111, 32, 46, 32, 112]) r_1) (P.cond (P.sfit (P.scat (ByteArray.mk #[121, 32, 61, 32, 111, 32, 46, 32, 112]) r_1) (ByteArray.mk #[32, 59])) (P.bind (family_num k (P.wrap IntKind.i64 (P.sub x ((1 : Int))))) fun (r_2 : Int × Int) => some ([P.scat (P.scat (ByteArray.mk #[111, 32, 61, 32, 110, 101, 119, 32, 123, 32]) r) (ByteArray.mk #[32, 125, 32, 112, 114, 111, 116, 111, 32, 110, 117, 108, 108, 32, 59]), P.scat (P.scat (ByteArray.mk #[121, 32, 61, 32, 111, 32, 46, 32, 112]) r_1) (ByteArray.mk #[32, 59]), (ByteArray.mk #[114, 101, 116, 117, 114, 110, 32, 121, 32, 59])], r_2, (3 : Int))) none) none) none) none) fun (r : List ByteArray × (Int × Int) × Int) => some r)
theorem family_fields_eq (k : Nat) (x : (Ty.D (.int .i64))) : evFn (EN k [(33, ⟨(.pair (.slice .str) .str), .str, strings_Join k⟩), (64, ⟨(.int .i64), .str, family_d k⟩), (65, ⟨(.int .i64), T_api_Val, family_num k⟩)]) 6 Tryd.f48 [] (.int .i64) T_family_member x = family_fields k x := by kernel_rfl
theorem family_fields_spec (k : Nat) : SpecOk Tryd.prog GG 48 ⟨(.int .i64), T_family_member, family_fields k⟩ :=
  fn_spec (envOk (E := EN k [(33, ⟨(.pair (.slice .str) .str), .str, strings_Join k⟩), (64, ⟨(.int .i64), .str, family_d k⟩), (65, ⟨(.int .i64), T_api_Val, family_num k⟩)]) tabOk (.cons (strings_Join_spec k) f33_at f33_ok <| .cons (family_d_spec k) f64_at f64_ok <| .cons (family_num_spec k) f65_at f65_ok <| .nil) codesOk mixedOk ggKeep) f48_at (fun x => (family_fields_eq k x).symm)
noncomputable def family_strong : (k : Nat) → (Ty.D (.int .i64)) → Option (Ty.D T_family_member) := fun (k : Nat) (x : (Ty.int IntKind.i64).D) => P.bind (family_num k x) fun (r : Int × Int) => P.bind (P.iter k (fun (y : List ByteArray × Int) => P.cond (P.ile y.snd x) (P.cond (P.not (P.ieq ((2 : Int)) ((0 : Int)))) (P.cond (P.ieq (P.rem y.snd ((2 : Int))) ((1 : Int))) (P.cond (P.room (P.add (P.len y.fst) (P.len [(ByteArray.mk #[111, 32, 46, 32, 112, 32, 61, 32, 116, 114, 117, 101, 32, 59])])) 16) (some (Sum.inl (P.app y.fst [(ByteArray.mk #[111, 32, 46, 32, 112, 32, 61, 32, 116, 114, 117, 101, 32, 59])], P.wrap IntKind.i64 (P.add y.snd ((1 : Int)))))) none) (P.bind (family_d k y.snd) fun (r : ByteArray) => P.cond (P.sfit (ByteArray.mk #[111, 32, 46, 32, 112, 32, 61, 32]) r) (P.cond (P.sfit (P.scat (ByteArray.mk #[111, 32, 46, 32, 112, 32, 61, 32]) r) (ByteArray.mk #[32, 59])) (P.cond (P.room (P.add (P.len y.fst) (P.len [P.scat (P.scat (ByteArray.mk #[111, 32, 46, 32, 112, 32, 61, 32]) r) (ByteArray.mk #[32, 59])])) 16) (some (Sum.inl (P.app y.fst [P.scat (P.scat (ByteArray.mk #[111, 32, 46, 32, 112, 32, 61, 32]) r) (ByteArray.mk #[32, 59])], P.wrap IntKind.i64 (P.add y.snd ((1 : Int)))))) none) none) none)) none) (some (Sum.inr (Sum.inl y.fst)))) ([], (1 : Int))) (P.either (fun (z : List ByteArray) => P.cond (P.room (P.add (P.len [(ByteArray.mk #[111, 32, 61, 32, 110, 101, 119, 32, 123, 32, 112, 32, 58, 32, 48, 32, 125, 32, 112, 114, 111, 116, 111, 32, 110, 117, 108, 108, 32, 59])]) (P.len z)) 16) (P.cond (P.not (P.ieq ((2 : Int)) ((0 : Int)))) (P.cond (P.ieq (P.rem x ((2 : Int))) ((1 : Int))) (P.cond (P.room (P.add (P.len (P.app [(ByteArray.mk #[111, 32, 61, 32, 110, 101, 119, 32, 123, 32, 112, 32, 58, 32, 48, 32, 125, 32, 112, 114, 111, 116, 111, 32, 110, 117, 108, 108, 32, 59])] z)) (P.len [(ByteArray.mk #[121, 32, 61, 32, 111, 32, 46, 32, 112, 32, 59]), (ByteArray.mk #[114, 101, 116, 117, 114, 110, 32, 121, 32, 59])])) 16) (some (P.app (P.app [(ByteArray.mk #[111, 32, 61, 32, 110, 101, 119, 32, 123, 32, 112, 32, 58, 32, 48, 32, 125, 32, 112, 114, 111, 116, 111, 32, 110, 117, 108, 108, 32, 59])] z) [(ByteArray.mk #[121, 32, 61, 32, 111, 32, 46, 32, 112, 32, 59]), (ByteArray.mk #[114, 101, 116, 117, 114, 110, 32, 121, 32, 59])], ((1 : Int), (1 : Int)), P.wrap IntKind.i64 (P.add x ((3 : Int))))) none) (P.cond (P.room (P.add (P.len (P.app [(ByteArray.mk #[111, 32, 61, 32, 110, 101, 119, 32, 123, 32, 112, 32, 58, 32, 48, 32, 125, 32, 112, 114, 111, 116, 111, 32, 110, 117, 108, 108, 32, 59])] z)) (P.len [(ByteArray.mk #[121, 32, 61, 32, 111, 32, 46, 32, 112, 32, 59]), (ByteArray.mk #[114, 101, 116, 117, 114, 110, 32, 121, 32, 59])])) 16) (some (P.app (P.app [(ByteArray.mk #[111, 32, 61, 32, 110, 101, 119, 32, 123, 32, 112, 32, 58, 32, 48, 32, 125, 32, 112, 114, 111, 116, 111, 32, 110, 117, 108, 108, 32, 59])] z) [(ByteArray.mk #[121, 32, 61, 32, 111, 32, 46, 32, 112, 32, 59]), (ByteArray.mk #[114, 101, 116, 117, 114, 110, 32, 121, 32, 59])], r, P.wrap IntKind.i64 (P.add x ((3 : Int))))) none)) none) none) fun (r : List ByteArray × (Int × Int) × Int) => some r)
theorem family_strong_eq (k : Nat) (x : (Ty.D (.int .i64))) : evFn (EN k [(64, ⟨(.int .i64), .str, family_d k⟩), (65, ⟨(.int .i64), T_api_Val, family_num k⟩)]) 6 Tryd.f49 [] (.int .i64) T_family_member x = family_strong k x := by kernel_rfl
theorem family_strong_spec (k : Nat) : SpecOk Tryd.prog GG 49 ⟨(.int .i64), T_family_member, family_strong k⟩ :=
  fn_spec (envOk (E := EN k [(64, ⟨(.int .i64), .str, family_d k⟩), (65, ⟨(.int .i64), T_api_Val, family_num k⟩)]) tabOk (.cons (family_d_spec k) f64_at f64_ok <| .cons (family_num_spec k) f65_at f65_ok <| .nil) codesOk mixedOk ggKeep) f49_at (fun x => (family_strong_eq k x).symm)
noncomputable def family_chain : (k : Nat) → (Ty.D (.int .i64)) → Option (Ty.D T_family_member) := fun (k : Nat) (x : (Ty.int IntKind.i64).D) => P.bind (family_num k ((7 : Int))) fun (r : Int × Int) => P.bind (P.iter k (fun (y : List ByteArray × Int) => P.cond (P.ile y.snd x) (P.bind (family_d k y.snd) fun (r : ByteArray) => P.cond (P.sfit (ByteArray.mk #[111]) r) (P.cond (P.sfit (P.scat (ByteArray.mk #[111]) r) (ByteArray.mk #[32, 61, 32, 110, 101, 119, 32, 123, 32, 125, 32, 112, 114, 111, 116, 111, 32, 111])) (P.bind (family_d k (P.wrap IntKind.i64 (P.sub y.snd ((1 : Int))))) fun (r_1 : ByteArray) => P.cond (P.sfit (P.scat (P.scat (ByteArray.mk #[111]) r) (ByteArray.mk #[32, 61, 32, 110, 101, 119, 32, 123, 32, 125, 32, 112, 114, 111, 116, 111, 32, 111])) r_1) (P.cond (P.sfit (P.scat (P.scat (P.scat (ByteArray.mk #[111]) r) (ByteArray.mk #[32, 61, 32, 110, 101, 119, 32, 123, 32, 125, 32, 112, 114, 111, 116, 111, 32, 111])) r_1) (ByteArray.mk #[32, 59])) (P.cond (P.room (P.add (P.len y.fst) (P.len [P.scat (P.scat (P.scat (P.scat (ByteArray.mk #[111]) r) (ByteArray.mk #[32, 61, 32, 110, 101, 119, 32, 123, 32, 125, 32, 112, 114, 111, 116, 111, 32, 111])) r_1) (ByteArray.mk #[32, 59])])) 16) (some (Sum.inl (P.app y.fst [P.scat (P.scat (P.scat (P.scat (ByteArray.mk #[111]) r) (ByteArray.mk #[32, 61, 32, 110, 101, 119, 32, 123, 32, 125, 32, 112, 114, 111, 116, 111, 32, 111])) r_1) (ByteArray.mk #[32, 59])], P.wrap IntKind.i64 (P.add y.snd ((1 : Int)))))) none) none) none) none) none) (some (Sum.inr (Sum.inl y.fst)))) ([], (1 : Int))) (P.either (fun (z : List ByteArray) => P.cond (P.room (P.add (P.len [(ByteArray.mk #[111, 48, 32, 61, 32, 110, 101, 119, 32, 123, 32, 112, 32, 58, 32, 55, 32, 125, 32, 112, 114, 111, 116, 111, 32, 110, 117, 108, 108, 32, 59])]) (P.len z)) 16) (P.bind (family_d k x) fun (r_1 : ByteArray) => P.cond (P.sfit (ByteArray.mk #[121, 32, 61, 32, 111]) r_1) (P.cond (P.sfit (P.scat (ByteArray.mk #[121, 32, 61, 32, 111]) r_1) (ByteArray.mk #[32, 46, 32, 112, 32, 59])) (P.cond (P.room (P.add (P.len (P.app [(ByteArray.mk #[111, 48, 32, 61, 32, 110, 101, 119, 32, 123, 32, 112, 32, 58, 32, 55, 32, 125, 32, 112, 114, 111, 116, 111, 32, 110, 117, 108, 108, 32, 59])] z)) (P.len [P.scat (P.scat (ByteArray.mk #[121, 32, 61, 32, 111]) r_1) (ByteArray.mk #[32, 46, 32, 112, 32, 59]), (ByteArray.mk #[114, 101, 116, 117, 114, 110, 32, 121, 32, 59])])) 16) (some (P.app (P.app [(ByteArray.mk #[111, 48, 32, 61, 32, 110, 101, 119, 32, 123, 32, 112, 32, 58, 32, 55, 32, 125, 32, 112, 114, 111, 116, 111, 32, 110, 117, 108, 108, 32, 59])] z) [P.scat (P.scat (ByteArray.mk #[121, 32, 61, 32, 111]) r_1) (ByteArray.mk #[32, 46, 32, 112, 32, 59]), (ByteArray.mk #[114, 101, 116, 117, 114, 110, 32, 121, 32, 59])], r, P.wrap IntKind.i64 (P.add x ((3 : Int))))) none) none) none) none) fun (r : List ByteArray × (Int × Int) × Int) => some r)
theorem family_chain_eq (k : Nat) (x : (Ty.D (.int .i64))) : evFn (EN k [(64, ⟨(.int .i64), .str, family_d k⟩), (65, ⟨(.int .i64), T_api_Val, family_num k⟩)]) 6 Tryd.f50 [] (.int .i64) T_family_member x = family_chain k x := by kernel_rfl
theorem family_chain_spec (k : Nat) : SpecOk Tryd.prog GG 50 ⟨(.int .i64), T_family_member, family_chain k⟩ :=
  fn_spec (envOk (E := EN k [(64, ⟨(.int .i64), .str, family_d k⟩), (65, ⟨(.int .i64), T_api_Val, family_num k⟩)]) tabOk (.cons (family_d_spec k) f64_at f64_ok <| .cons (family_num_spec k) f65_at f65_ok <| .nil) codesOk mixedOk ggKeep) f50_at (fun x => (family_chain_eq k x).symm)
noncomputable def family_loop : (k : Nat) → (Ty.D (.int .i64)) → Option (Ty.D T_family_member) := fun (k : Nat) (x : (Ty.int IntKind.i64).D) => P.bind (family_d k x) fun (r : ByteArray) => P.cond (P.sfit (ByteArray.mk #[98, 32, 61, 32, 105, 32, 60, 32]) r) (P.cond (P.sfit (P.scat (ByteArray.mk #[98, 32, 61, 32, 105, 32, 60, 32]) r) (ByteArray.mk #[32, 59])) (P.bind (family_d k x) fun (r_1 : ByteArray) => P.cond (P.sfit (ByteArray.mk #[119, 104, 105, 108, 101, 32, 98, 32, 123, 32, 111, 32, 61, 32, 110, 101, 119, 32, 123, 32, 118, 32, 58, 32, 105, 32, 125, 32, 112, 114, 111, 116, 111, 32, 110, 117, 108, 108, 32, 59, 32, 105, 32, 61, 32, 105, 32, 43, 32, 49, 32, 59, 32, 98, 32, 61, 32, 105, 32, 60, 32]) r_1) (P.cond (P.sfit (P.scat (ByteArray.mk #[119, 104, 105, 108, 101, 32, 98, 32, 123, 32, 111, 32, 61, 32, 110, 101, 119, 32, 123, 32, 118, 32, 58, 32, 105, 32, 125, 32, 112, 114, 111, 116, 111, 32, 110, 117, 108, 108, 32, 59, 32, 105, 32, 61, 32, 105, 32, 43, 32, 49, 32, 59, 32, 98, 32, 61, 32, 105, 32, 60, 32]) r_1) (ByteArray.mk #[32, 59, 32, 125])) (P.bind (family_num k x) fun (r_2 : Int × Int) => some ([(ByteArray.mk #[105, 32, 61, 32, 48, 32, 59]), P.scat (P.scat (ByteArray.mk #[98, 32, 61, 32, 105, 32, 60, 32]) r) (ByteArray.mk #[32, 59]), P.scat (P.scat (ByteArray.mk #[119, 104, 105, 108, 101, 32, 98, 32, 123, 32, 111, 32, 61, 32, 110, 101, 119, 32, 123, 32, 118, 32, 58, 32, 105, 32, 125, 32, 112, 114, 111, 116, 111, 32, 110, 117, 108, 108, 32, 59, 32, 105, 32, 61, 32, 105, 32, 43, 32, 49, 32, 59, 32, 98, 32, 61, 32, 105, 32, 60, 32]) r_1) (ByteArray.mk #[32, 59, 32, 125]), (ByteArray.mk #[114, 101, 116, 117, 114, 110, 32, 105, 32, 59])], r_2, P.wrap IntKind.i64 (P.add ((4 : Int)) (P.wrap IntKind.i64 (P.mul ((4 : Int)) x))))) none) none) none) none
theorem family_loop_eq (k : Nat) (x : (Ty.D (.int .i64))) : evFn (EN k [(64, ⟨(.int .i64), .str, family_d k⟩), (65, ⟨(.int .i64), T_api_Val, family_num k⟩)]) 6 Tryd.f51 [] (.int .i64) T_family_member x = family_loop k x := by kernel_rfl
theorem family_loop_spec (k : Nat) : SpecOk Tryd.prog GG 51 ⟨(.int .i64), T_family_member, family_loop k⟩ :=
  fn_spec (envOk (E := EN k [(64, ⟨(.int .i64), .str, family_d k⟩), (65, ⟨(.int .i64), T_api_Val, family_num k⟩)]) tabOk (.cons (family_d_spec k) f64_at f64_ok <| .cons (family_num_spec k) f65_at f65_ok <| .nil) codesOk mixedOk ggKeep) f51_at (fun x => (family_loop_eq k x).symm)
noncomputable def family_extension : (k : Nat) → (Ty.D (.int .i64)) → Option (Ty.D T_family_member) := fun (k : Nat) (x : (Ty.int IntKind.i64).D) => P.bind (family_num k (P.wrap IntKind.i64 (P.sub x ((1 : Int))))) fun (r : Int × Int) => P.bind (P.iter k (fun (y : List ByteArray × Int) => P.cond (P.ile y.snd (P.wrap IntKind.i64 (P.sub x ((1 : Int))))) (P.bind (family_d k y.snd) fun (r : ByteArray) => P.cond (P.sfit (ByteArray.mk #[111, 32, 46, 32, 112]) r) (P.cond (P.sfit (P.scat (ByteArray.mk #[111, 32, 46, 32, 112]) r) (ByteArray.mk #[32, 61, 32])) (P.bind (family_d k y.snd) fun (r_1 : ByteArray) => P.cond (P.sfit (P.scat (P.scat (ByteArray.mk #[111, 32, 46, 32, 112]) r) (ByteArray.mk #[32, 61, 32])) r_1) (P.cond (P.sfit (P.scat (P.scat (P.scat (ByteArray.mk #[111, 32, 46, 32, 112]) r) (ByteArray.mk #[32, 61, 32])) r_1) (ByteArray.mk #[32, 59])) (P.cond (P.room (P.add (P.len y.fst) (P.len [P.scat (P.scat (P.scat (P.scat (ByteArray.mk #[111, 32, 46, 32, 112]) r) (ByteArray.mk #[32, 61, 32])) r_1) (ByteArray.mk #[32, 59])])) 16) (some (Sum.inl (P.app y.fst [P.scat (P.scat (P.scat (P.scat (ByteArray.mk #[111, 32, 46, 32, 112]) r) (ByteArray.mk #[32, 61, 32])) r_1) (ByteArray.mk #[32, 59])], P.wrap IntKind.i64 (P.add y.snd ((1 : Int)))))) none) none) none) none) none) (some (Sum.inr (Sum.inl y.fst)))) ([], (0 : Int))) (P.either (fun (z : List ByteArray) => P.cond (P.room (P.add (P.len [(ByteArray.mk #[111, 32, 61, 32, 110, 101, 119, 32, 123, 32, 125, 32, 112, 114, 111, 116, 111, 32, 110, 117, 108, 108, 32, 59]), (ByteArray.mk #[120, 32, 61, 32, 110, 101, 119, 32, 123, 32, 125, 32, 112, 114, 111, 116, 111, 32, 111, 32, 59])]) (P.len z)) 16) (P.bind (family_d k (P.wrap IntKind.i64 (P.sub x ((1 : Int))))) fun (r_1 : ByteArray) => P.cond (P.sfit (ByteArray.mk #[121, 32, 61, 32, 120, 32, 46, 32, 112]) r_1) (P.cond (P.sfit (P.scat (ByteArray.mk #[121, 32, 61, 32, 120, 32, 46, 32, 112]) r_1) (ByteArray.mk #[32, 59])) (P.cond (P.room (P.add (P.len (P.app [(ByteArray.mk #[111, 32, 61, 32, 110, 101, 119, 32, 123, 32, 125, 32, 112, 114, 111, 116, 111, 32, 110, 117, 108, 108, 32, 59]), (ByteArray.mk #[120, 32, 61, 32, 110, 101, 119, 32, 123, 32, 125, 32, 112, 114, 111, 116, 111, 32, 111, 32, 59])] z)) (P.len [P.scat (P.scat (ByteArray.mk #[121, 32, 61, 32, 120, 32, 46, 32, 112]) r_1) (ByteArray.mk #[32, 59]), (ByteArray.mk #[114, 101, 116, 117, 114, 110, 32, 121, 32, 59])])) 16) (some (P.app (P.app [(ByteArray.mk #[111, 32, 61, 32, 110, 101, 119, 32, 123, 32, 125, 32, 112, 114, 111, 116, 111, 32, 110, 117, 108, 108, 32, 59]), (ByteArray.mk #[120, 32, 61, 32, 110, 101, 119, 32, 123, 32, 125, 32, 112, 114, 111, 116, 111, 32, 111, 32, 59])] z) [P.scat (P.scat (ByteArray.mk #[121, 32, 61, 32, 120, 32, 46, 32, 112]) r_1) (ByteArray.mk #[32, 59]), (ByteArray.mk #[114, 101, 116, 117, 114, 110, 32, 121, 32, 59])], r, P.wrap IntKind.i64 (P.add x ((4 : Int))))) none) none) none) none) fun (r : List ByteArray × (Int × Int) × Int) => some r)
theorem family_extension_eq (k : Nat) (x : (Ty.D (.int .i64))) : evFn (EN k [(64, ⟨(.int .i64), .str, family_d k⟩), (65, ⟨(.int .i64), T_api_Val, family_num k⟩)]) 6 Tryd.f52 [] (.int .i64) T_family_member x = family_extension k x := by kernel_rfl
theorem family_extension_spec (k : Nat) : SpecOk Tryd.prog GG 52 ⟨(.int .i64), T_family_member, family_extension k⟩ :=
  fn_spec (envOk (E := EN k [(64, ⟨(.int .i64), .str, family_d k⟩), (65, ⟨(.int .i64), T_api_Val, family_num k⟩)]) tabOk (.cons (family_d_spec k) f64_at f64_ok <| .cons (family_num_spec k) f65_at f65_ok <| .nil) codesOk mixedOk ggKeep) f52_at (fun x => (family_extension_eq k x).symm)
noncomputable def family_of : (k : Nat) → (Ty.D (.pair (.int .i64) (.int .i64))) → Option (Ty.D (.pair T_family_member .bool)) := fun (k : Nat) (x : ((Ty.int IntKind.i64).pair (Ty.int IntKind.i64)).D) => P.cond (P.ilt x.fst ((0 : Int))) (some (([], ((0 : Int), (0 : Int)), (0 : Int)), false)) (P.cond (P.ile ((5 : Int)) x.fst) (some (([], ((0 : Int), (0 : Int)), (0 : Int)), false)) (P.cond (P.ilt x.snd ((1 : Int))) (some (([], ((0 : Int), (0 : Int)), (0 : Int)), false)) (P.cond (P.ilt ((20 : Int)) x.snd) (some (([], ((0 : Int), (0 : Int)), (0 : Int)), false)) (P.cond (P.ieq x.fst ((0 : Int))) (P.bind (family_fields k x.snd) fun (r : List ByteArray × (Int × Int) × Int) => some (r, true)) (P.cond (P.ieq x.fst ((1 : Int))) (P.bind (family_strong k x.snd) fun (r : List ByteArray × (Int × Int) × Int) => some (r, true)) (P.cond (P.ieq x.fst ((2 : Int))) (P.bind (family_chain k x.snd) fun (r : List ByteArray × (Int × Int) × Int) => some (r, true)) (P.cond (P.ieq x.fst ((3 : Int))) (P.bind (family_loop k x.snd) fun (r : List ByteArray × (Int × Int) × Int) => some (r, true)) (P.cond (P.ieq x.fst ((4 : Int))) (P.bind (family_extension k x.snd) fun (r : List ByteArray × (Int × Int) × Int) => some (r, true)) none))))))))
theorem family_of_eq (k : Nat) (x : (Ty.D (.pair (.int .i64) (.int .i64)))) : evFn (EN k [(48, ⟨(.int .i64), T_family_member, family_fields k⟩), (49, ⟨(.int .i64), T_family_member, family_strong k⟩), (50, ⟨(.int .i64), T_family_member, family_chain k⟩), (51, ⟨(.int .i64), T_family_member, family_loop k⟩), (52, ⟨(.int .i64), T_family_member, family_extension k⟩)]) 6 Tryd.f32 [] (.pair (.int .i64) (.int .i64)) (.pair T_family_member .bool) x = family_of k x := by kernel_rfl
theorem family_of_spec (k : Nat) : SpecOk Tryd.prog GG 32 ⟨(.pair (.int .i64) (.int .i64)), (.pair T_family_member .bool), family_of k⟩ :=
  fn_spec (envOk (E := EN k [(48, ⟨(.int .i64), T_family_member, family_fields k⟩), (49, ⟨(.int .i64), T_family_member, family_strong k⟩), (50, ⟨(.int .i64), T_family_member, family_chain k⟩), (51, ⟨(.int .i64), T_family_member, family_loop k⟩), (52, ⟨(.int .i64), T_family_member, family_extension k⟩)]) tabOk (.cons (family_fields_spec k) f48_at f48_ok <| .cons (family_strong_spec k) f49_at f49_ok <| .cons (family_chain_spec k) f50_at f50_ok <| .cons (family_loop_spec k) f51_at f51_ok <| .cons (family_extension_spec k) f52_at f52_ok <| .nil) codesOk mixedOk ggKeep) f32_at (fun x => (family_of_eq k x).symm)
noncomputable def family_Text : (k : Nat) → (Ty.D (.pair (.int .i64) (.int .i64))) → Option (Ty.D .str) := fun (k : Nat) (x : ((Ty.int IntKind.i64).pair (Ty.int IntKind.i64)).D) => P.bind (family_of k (x.fst, x.snd)) fun (r : (List ByteArray × (Int × Int) × Int) × Bool) => P.cond (P.not r.snd) (some (ByteArray.mk #[])) (P.bind (strings_Join k (r.fst.fst, (ByteArray.mk #[32]))) fun (r : ByteArray) => P.cond (P.sfit (ByteArray.mk #[102, 117, 110, 32, 109, 97, 105, 110, 32, 40, 32, 41, 32, 123, 32]) r) (P.cond (P.sfit (P.scat (ByteArray.mk #[102, 117, 110, 32, 109, 97, 105, 110, 32, 40, 32, 41, 32, 123, 32]) r) (ByteArray.mk #[32, 125, 10])) (some (P.scat (P.scat (ByteArray.mk #[102, 117, 110, 32, 109, 97, 105, 110, 32, 40, 32, 41, 32, 123, 32]) r) (ByteArray.mk #[32, 125, 10]))) none) none)
theorem family_Text_eq (k : Nat) (x : (Ty.D (.pair (.int .i64) (.int .i64)))) : evFn (EN k [(32, ⟨(.pair (.int .i64) (.int .i64)), (.pair T_family_member .bool), family_of k⟩), (33, ⟨(.pair (.slice .str) .str), .str, strings_Join k⟩)]) 6 Tryd.f10 [] (.pair (.int .i64) (.int .i64)) .str x = family_Text k x := by kernel_rfl
theorem family_Text_spec (k : Nat) : SpecOk Tryd.prog GG 10 ⟨(.pair (.int .i64) (.int .i64)), .str, family_Text k⟩ :=
  fn_spec (envOk (E := EN k [(32, ⟨(.pair (.int .i64) (.int .i64)), (.pair T_family_member .bool), family_of k⟩), (33, ⟨(.pair (.slice .str) .str), .str, strings_Join k⟩)]) tabOk (.cons (family_of_spec k) f32_at f32_ok <| .cons (strings_Join_spec k) f33_at f33_ok <| .nil) codesOk mixedOk ggKeep) f10_at (fun x => (family_Text_eq k x).symm)
noncomputable def family_Value : (k : Nat) → (Ty.D (.pair (.int .i64) (.int .i64))) → Option (Ty.D T_api_Val) := fun (k : Nat) (x : ((Ty.int IntKind.i64).pair (Ty.int IntKind.i64)).D) => P.bind (family_of k (x.fst, x.snd)) fun (r : (List ByteArray × (Int × Int) × Int) × Bool) => some r.fst.snd.fst
theorem family_Value_eq (k : Nat) (x : (Ty.D (.pair (.int .i64) (.int .i64)))) : evFn (EN k [(32, ⟨(.pair (.int .i64) (.int .i64)), (.pair T_family_member .bool), family_of k⟩)]) 6 Tryd.f12 [] (.pair (.int .i64) (.int .i64)) T_api_Val x = family_Value k x := by kernel_rfl
theorem family_Value_spec (k : Nat) : SpecOk Tryd.prog GG 12 ⟨(.pair (.int .i64) (.int .i64)), T_api_Val, family_Value k⟩ :=
  fn_spec (envOk (E := EN k [(32, ⟨(.pair (.int .i64) (.int .i64)), (.pair T_family_member .bool), family_of k⟩)]) tabOk (.cons (family_of_spec k) f32_at f32_ok <| .nil) codesOk mixedOk ggKeep) f12_at (fun x => (family_Value_eq k x).symm)
noncomputable def family_Steps : (k : Nat) → (Ty.D (.pair (.int .i64) (.int .i64))) → Option (Ty.D (.int .i64)) := fun (k : Nat) (x : ((Ty.int IntKind.i64).pair (Ty.int IntKind.i64)).D) => P.bind (family_of k (x.fst, x.snd)) fun (r : (List ByteArray × (Int × Int) × Int) × Bool) => some r.fst.snd.snd
theorem family_Steps_eq (k : Nat) (x : (Ty.D (.pair (.int .i64) (.int .i64)))) : evFn (EN k [(32, ⟨(.pair (.int .i64) (.int .i64)), (.pair T_family_member .bool), family_of k⟩)]) 6 Tryd.f14 [] (.pair (.int .i64) (.int .i64)) (.int .i64) x = family_Steps k x := by kernel_rfl
theorem family_Steps_spec (k : Nat) : SpecOk Tryd.prog GG 14 ⟨(.pair (.int .i64) (.int .i64)), (.int .i64), family_Steps k⟩ :=
  fn_spec (envOk (E := EN k [(32, ⟨(.pair (.int .i64) (.int .i64)), (.pair T_family_member .bool), family_of k⟩)]) tabOk (.cons (family_of_spec k) f32_at f32_ok <| .nil) codesOk mixedOk ggKeep) f14_at (fun x => (family_Steps_eq k x).symm)
noncomputable def law26_fixed : (k : Nat) → (Ty.D .unit) → Option (Ty.D .bool) := fun (k : Nat) (x : Ty.unit.D) => P.bind (family_Text k ((1 : Int), (1 : Int))) fun (r : ByteArray) => P.cond (P.seq r { data := ([102, 117, 110, 32, 109, 97, 105, 110, 32, 40, 32, 41, 32, 123, 32, 111, 32, 61, 32, 110, 101, 119, 32, 123, 32, 112, 32, 58, 32, 48, 32, 125, 32, 112, 114, 111, 116, 111, 32, 110, 117, 108, 108].append [32, 59, 32, 111, 32, 46, 32, 112, 32, 61, 32, 116, 114, 117, 101, 32, 59, 32, 121, 32, 61, 32, 111, 32, 46, 32, 112, 32, 59, 32, 114, 101, 116, 117, 114, 110, 32, 121, 32, 59, 32, 125, 10]).toArray }) (P.bind (family_Value k ((1 : Int), (1 : Int))) fun (r : Int × Int) => P.cond (P.and (P.ieq r.fst ((1 : Int))) (P.ieq r.snd ((1 : Int)))) (P.bind (family_Steps k ((1 : Int), (1 : Int))) fun (r : Int) => P.cond (P.ieq r ((4 : Int))) (P.bind (family_Text k ((5 : Int), (1 : Int))) fun (r : ByteArray) => P.cond (P.seq r (ByteArray.mk #[])) (P.bind (family_Text k ((0 : Int), (21 : Int))) fun (r : ByteArray) => some (P.seq r (ByteArray.mk #[]))) (some false)) (some false)) (some false)) (some false)
theorem law26_fixed_eq (k : Nat) (x : (Ty.D .unit)) : evFn (EN k [(10, ⟨(.pair (.int .i64) (.int .i64)), .str, family_Text k⟩), (12, ⟨(.pair (.int .i64) (.int .i64)), T_api_Val, family_Value k⟩), (14, ⟨(.pair (.int .i64) (.int .i64)), (.int .i64), family_Steps k⟩)]) 6 Tryd.f9 [] .unit .bool x = law26_fixed k x := by kernel_rfl
theorem law26_fixed_spec (k : Nat) : SpecOk Tryd.prog GG 9 ⟨.unit, .bool, law26_fixed k⟩ :=
  fn_spec (envOk (E := EN k [(10, ⟨(.pair (.int .i64) (.int .i64)), .str, family_Text k⟩), (12, ⟨(.pair (.int .i64) (.int .i64)), T_api_Val, family_Value k⟩), (14, ⟨(.pair (.int .i64) (.int .i64)), (.int .i64), family_Steps k⟩)]) tabOk (.cons (family_Text_spec k) f10_at f10_ok <| .cons (family_Value_spec k) f12_at f12_ok <| .cons (family_Steps_spec k) f14_at f14_ok <| .nil) codesOk mixedOk ggKeep) f9_at (fun x => (law26_fixed_eq k x).symm)
noncomputable def ref26_Is : (k : Nat) → (Ty.D (.pair (.int .i64) (.int .i64))) → Option (Ty.D .bool) := fun (k : Nat) (x : ((Ty.int IntKind.i64).pair (Ty.int IntKind.i64)).D) => P.cond (P.ile ((0 : Int)) x.fst) (P.cond (P.ile x.fst ((4 : Int))) (P.cond (P.ile ((1 : Int)) x.snd) (some (P.ile x.snd ((20 : Int)))) (some false)) (some false)) (some false)
theorem ref26_Is_eq (k : Nat) (x : (Ty.D (.pair (.int .i64) (.int .i64)))) : evFn (EN k []) 6 Tryd.f34 [] (.pair (.int .i64) (.int .i64)) .bool x = ref26_Is k x := by kernel_rfl
theorem ref26_Is_spec (k : Nat) : SpecOk Tryd.prog GG 34 ⟨(.pair (.int .i64) (.int .i64)), .bool, ref26_Is k⟩ :=
  fn_spec (envOk (E := EN k []) tabOk (.nil) codesOk mixedOk ggKeep) f34_at (fun x => (ref26_Is_eq k x).symm)
noncomputable def ref03_Digits : (k : Nat) → (Ty.D (.int .u64)) → Option (Ty.D .str) := fun (k : Nat) (x : (Ty.int IntKind.u64).D) => P.bind (P.iter k (fun (y : Int × ByteArray) => P.cond (P.ilt ((9 : Int)) y.fst) (P.cond (P.not (P.ieq ((10 : Int)) ((0 : Int)))) (P.cond (P.not (P.ieq ((10 : Int)) ((0 : Int)))) (P.cond (P.cut (P.rem y.fst ((10 : Int))) (P.wrap IntKind.u64 (P.add (P.rem y.fst ((10 : Int))) ((1 : Int)))) (P.slen (ByteArray.mk #[48, 49, 50, 51, 52, 53, 54, 55, 56, 57]))) (P.cond (P.sfit (P.ssub (ByteArray.mk #[48, 49, 50, 51, 52, 53, 54, 55, 56, 57]) (P.rem y.fst ((10 : Int))) (P.wrap IntKind.u64 (P.add (P.rem y.fst ((10 : Int))) ((1 : Int))))) y.snd) (P.cond (P.not (P.ieq ((10 : Int)) ((0 : Int)))) (some (Sum.inl (P.wrap IntKind.u64 (P.quo y.fst ((10 : Int))), P.scat (P.ssub (ByteArray.mk #[48, 49, 50, 51, 52, 53, 54, 55, 56, 57]) (P.rem y.fst ((10 : Int))) (P.wrap IntKind.u64 (P.add (P.rem y.fst ((10 : Int))) ((1 : Int))))) y.snd))) none) none) none) none) none) (some (Sum.inr (Sum.inl (y.fst, y.snd))))) (x, (ByteArray.mk #[]))) (P.either (fun (z : Int × ByteArray) => P.cond (P.cut z.fst (P.wrap IntKind.u64 (P.add z.fst ((1 : Int)))) (P.slen (ByteArray.mk #[48, 49, 50, 51, 52, 53, 54, 55, 56, 57]))) (P.cond (P.sfit (P.ssub (ByteArray.mk #[48, 49, 50, 51, 52, 53, 54, 55, 56, 57]) z.fst (P.wrap IntKind.u64 (P.add z.fst ((1 : Int))))) z.snd) (some (P.scat (P.ssub (ByteArray.mk #[48, 49, 50, 51, 52, 53, 54, 55, 56, 57]) z.fst (P.wrap IntKind.u64 (P.add z.fst ((1 : Int))))) z.snd)) none) none) fun (r : ByteArray) => some r)
theorem ref03_Digits_eq (k : Nat) (x : (Ty.D (.int .u64))) : evFn (EN k []) 6 Tryd.f61 [(2, ⟨[.var 0 (.d (.int .u64)), .var 3 (.d .str)], [], (some (0, [.var 0 (.d (.int .u64)), .var 3 (.d .str)]))⟩)] (.int .u64) .str x = ref03_Digits k x := by kernel_rfl
theorem ref03_Digits_spec (k : Nat) : SpecOk Tryd.prog GG 61 ⟨(.int .u64), .str, ref03_Digits k⟩ :=
  fn_spec (envOk (E := EN k []) tabOk (.nil) codesOk mixedOk ggKeep) f61_at (fun x => (ref03_Digits_eq k x).symm)
noncomputable def ref03_Signed : (k : Nat) → (Ty.D (.int .i64)) → Option (Ty.D .str) := fun (k : Nat) (x : (Ty.int IntKind.i64).D) => P.cond (P.ilt x ((0 : Int))) (P.bind (ref03_Digits k (P.wrap IntKind.u64 (P.add (P.wrap IntKind.u64 (P.wrap IntKind.i64 (P.sub ((0 : Int)) (P.wrap IntKind.i64 (P.add x ((1 : Int))))))) ((1 : Int))))) fun (r : ByteArray) => P.cond (P.sfit (ByteArray.mk #[45]) r) (some (P.scat (ByteArray.mk #[45]) r)) none) (P.bind (ref03_Digits k (P.wrap IntKind.u64 x)) fun (r : ByteArray) => some r)
theorem ref03_Signed_eq (k : Nat) (x : (Ty.D (.int .i64))) : evFn (EN k [(61, ⟨(.int .u64), .str, ref03_Digits k⟩)]) 6 Tryd.f47 [] (.int .i64) .str x = ref03_Signed k x := by kernel_rfl
theorem ref03_Signed_spec (k : Nat) : SpecOk Tryd.prog GG 47 ⟨(.int .i64), .str, ref03_Signed k⟩ :=
  fn_spec (envOk (E := EN k [(61, ⟨(.int .u64), .str, ref03_Digits k⟩)]) tabOk (.cons (ref03_Digits_spec k) f61_at f61_ok <| .nil) codesOk mixedOk ggKeep) f47_at (fun x => (ref03_Signed_eq k x).symm)
noncomputable def ref26_d : (k : Nat) → (Ty.D (.int .i64)) → Option (Ty.D .str) := fun (k : Nat) (x : (Ty.int IntKind.i64).D) => P.bind (ref03_Signed k x) fun (r : ByteArray) => some r
theorem ref26_d_eq (k : Nat) (x : (Ty.D (.int .i64))) : evFn (EN k [(47, ⟨(.int .i64), .str, ref03_Signed k⟩)]) 6 Tryd.f35 [] (.int .i64) .str x = ref26_d k x := by kernel_rfl
theorem ref26_d_spec (k : Nat) : SpecOk Tryd.prog GG 35 ⟨(.int .i64), .str, ref26_d k⟩ :=
  fn_spec (envOk (E := EN k [(47, ⟨(.int .i64), .str, ref03_Signed k⟩)]) tabOk (.cons (ref03_Signed_spec k) f47_at f47_ok <| .nil) codesOk mixedOk ggKeep) f35_at (fun x => (ref26_d_eq k x).symm)
noncomputable def ref26_Text : (k : Nat) → (Ty.D (.pair (.int .i64) (.int .i64))) → Option (Ty.D .str) := fun (k : Nat) (x : ((Ty.int IntKind.i64).pair (Ty.int IntKind.i64)).D) => P.bind (ref26_Is k (x.fst, x.snd)) fun (r : Bool) => P.cond (P.not r) (some (ByteArray.mk #[])) (P.cond (P.ieq x.fst ((0 : Int))) (P.cond (P.sfit (ByteArray.mk #[102, 117, 110, 32, 109, 97, 105, 110, 32, 40, 32, 41, 32, 123, 32]) (ByteArray.mk #[111, 32, 61, 32, 110, 101, 119, 32, 123, 32])) (P.bind (P.iter k (fun (y : ByteArray × Int) => P.cond (P.ilt y.snd x.snd) (P.cond (P.ilt ((0 : Int)) y.snd) (P.cond (P.sfit y.fst (ByteArray.mk #[44, 32])) (P.bind (ref26_d k y.snd) fun (r : ByteArray) => P.cond (P.sfit (ByteArray.mk #[112]) r) (P.cond (P.sfit (P.scat (ByteArray.mk #[112]) r) (ByteArray.mk #[32, 58, 32])) (P.bind (ref26_d k y.snd) fun (r_1 : ByteArray) => P.cond (P.sfit (P.scat (P.scat (ByteArray.mk #[112]) r) (ByteArray.mk #[32, 58, 32])) r_1) (P.cond (P.sfit (P.scat (P.scat (P.scat (ByteArray.mk #[112]) r) (ByteArray.mk #[32, 58, 32])) r_1) (ByteArray.mk #[32])) (P.cond (P.sfit (P.scat y.fst (ByteArray.mk #[44, 32])) (P.scat (P.scat (P.scat (P.scat (ByteArray.mk #[112]) r) (ByteArray.mk #[32, 58, 32])) r_1) (ByteArray.mk #[32]))) (some (Sum.inl (P.scat (P.scat y.fst (ByteArray.mk #[44, 32])) (P.scat (P.scat (P.scat (P.scat (ByteArray.mk #[112]) r) (ByteArray.mk #[32, 58, 32])) r_1) (ByteArray.mk #[32])), P.wrap IntKind.i64 (P.add y.snd ((1 : Int)))))) none) none) none) none) none) none) (P.bind (ref26_d k y.snd) fun (r : ByteArray) => P.cond (P.sfit (ByteArray.mk #[112]) r) (P.cond (P.sfit (P.scat (ByteArray.mk #[112]) r) (ByteArray.mk #[32, 58, 32])) (P.bind (ref26_d k y.snd) fun (r_1 : ByteArray) => P.cond (P.sfit (P.scat (P.scat (ByteArray.mk #[112]) r) (ByteArray.mk #[32, 58, 32])) r_1) (P.cond (P.sfit (P.scat (P.scat (P.scat (ByteArray.mk #[112]) r) (ByteArray.mk #[32, 58, 32])) r_1) (ByteArray.mk #[32])) (P.cond (P.sfit y.fst (P.scat (P.scat (P.scat (P.scat (ByteArray.mk #[112]) r) (ByteArray.mk #[32, 58, 32])) r_1) (ByteArray.mk #[32]))) (some (Sum.inl (P.scat y.fst (P.scat (P.scat (P.scat (P.scat (ByteArray.mk #[112]) r) (ByteArray.mk #[32, 58, 32])) r_1) (ByteArray.mk #[32])), P.wrap IntKind.i64 (P.add y.snd ((1 : Int)))))) none) none) none) none) none)) (some (Sum.inr (Sum.inl y.fst)))) (P.scat (ByteArray.mk #[102, 117, 110, 32, 109, 97, 105, 110, 32, 40, 32, 41, 32, 123, 32]) (ByteArray.mk #[111, 32, 61, 32, 110, 101, 119, 32, 123, 32]), (0 : Int))) (P.either (fun (z : ByteArray) => P.bind (ref26_d k (P.wrap IntKind.i64 (P.sub x.snd ((1 : Int))))) fun (r : ByteArray) => P.cond (P.sfit (ByteArray.mk #[125, 32, 112, 114, 111, 116, 111, 32, 110, 117, 108, 108, 32, 59, 32, 121, 32, 61, 32, 111, 32, 46, 32, 112]) r) (P.cond (P.sfit (P.scat (ByteArray.mk #[125, 32, 112, 114, 111, 116, 111, 32, 110, 117, 108, 108, 32, 59, 32, 121, 32, 61, 32, 111, 32, 46, 32, 112]) r) (ByteArray.mk #[32, 59, 32, 114, 101, 116, 117, 114, 110, 32, 121, 32, 59, 32])) (P.cond (P.sfit z (P.scat (P.scat (ByteArray.mk #[125, 32, 112, 114, 111, 116, 111, 32, 110, 117, 108, 108, 32, 59, 32, 121, 32, 61, 32, 111, 32, 46, 32, 112]) r) (ByteArray.mk #[32, 59, 32, 114, 101, 116, 117, 114, 110, 32, 121, 32, 59, 32]))) (P.cond (P.sfit (P.scat z (P.scat (P.scat (ByteArray.mk #[125, 32, 112, 114, 111, 116, 111, 32, 110, 117, 108, 108, 32, 59, 32, 121, 32, 61, 32, 111, 32, 46, 32, 112]) r) (ByteArray.mk #[32, 59, 32, 114, 101, 116, 117, 114, 110, 32, 121, 32, 59, 32]))) (ByteArray.mk #[125, 10])) (some (P.scat (P.scat z (P.scat (P.scat (ByteArray.mk #[125, 32, 112, 114, 111, 116, 111, 32, 110, 117, 108, 108, 32, 59, 32, 121, 32, 61, 32, 111, 32, 46, 32, 112]) r) (ByteArray.mk #[32, 59, 32, 114, 101, 116, 117, 114, 110, 32, 121, 32, 59, 32]))) (ByteArray.mk #[125, 10]))) none) none) none) none) fun (r : ByteArray) => some r)) none) (P.cond (P.ieq x.fst ((1 : Int))) (P.cond (P.sfit (ByteArray.mk #[102, 117, 110, 32, 109, 97, 105, 110, 32, 40, 32, 41, 32, 123, 32]) (ByteArray.mk #[111, 32, 61, 32, 110, 101, 119, 32, 123, 32, 112, 32, 58, 32, 48, 32, 125, 32, 112, 114, 111, 116, 111, 32, 110, 117, 108, 108, 32, 59, 32])) (P.bind (P.iter k (fun (y : ByteArray × Int) => P.cond (P.ile y.snd x.snd) (P.cond (P.not (P.ieq ((2 : Int)) ((0 : Int)))) (P.cond (P.ieq (P.rem y.snd ((2 : Int))) ((1 : Int))) (P.cond (P.sfit y.fst (ByteArray.mk #[111, 32, 46, 32, 112, 32, 61, 32, 116, 114, 117, 101, 32, 59, 32])) (some (Sum.inl (P.scat y.fst (ByteArray.mk #[111, 32, 46, 32, 112, 32, 61, 32, 116, 114, 117, 101, 32, 59, 32]), P.wrap IntKind.i64 (P.add y.snd ((1 : Int)))))) none) (P.bind (ref26_d k y.snd) fun (r : ByteArray) => P.cond (P.sfit (ByteArray.mk #[111, 32, 46, 32, 112, 32, 61, 32]) r) (P.cond (P.sfit (P.scat (ByteArray.mk #[111, 32, 46, 32, 112, 32, 61, 32]) r) (ByteArray.mk #[32, 59, 32])) (P.cond (P.sfit y.fst (P.scat (P.scat (ByteArray.mk #[111, 32, 46, 32, 112, 32, 61, 32]) r) (ByteArray.mk #[32, 59, 32]))) (some (Sum.inl (P.scat y.fst (P.scat (P.scat (ByteArray.mk #[111, 32, 46, 32, 112, 32, 61, 32]) r) (ByteArray.mk #[32, 59, 32])), P.wrap IntKind.i64 (P.add y.snd ((1 : Int)))))) none) none) none)) none) (some (Sum.inr (Sum.inl y.fst)))) (P.scat (ByteArray.mk #[102, 117, 110, 32, 109, 97, 105, 110, 32, 40, 32, 41, 32, 123, 32]) (ByteArray.mk #[111, 32, 61, 32, 110, 101, 119, 32, 123, 32, 112, 32, 58, 32, 48, 32, 125, 32, 112, 114, 111, 116, 111, 32, 110, 117, 108, 108, 32, 59, 32]), (1 : Int))) (P.either (fun (z : ByteArray) => P.cond (P.sfit z (ByteArray.mk #[121, 32, 61, 32, 111, 32, 46, 32, 112, 32, 59, 32, 114, 101, 116, 117, 114, 110, 32, 121, 32, 59, 32])) (P.cond (P.sfit (P.scat z (ByteArray.mk #[121, 32, 61, 32, 111, 32, 46, 32, 112, 32, 59, 32, 114, 101, 116, 117, 114, 110, 32, 121, 32, 59, 32])) (ByteArray.mk #[125, 10])) (some (P.scat (P.scat z (ByteArray.mk #[121, 32, 61, 32, 111, 32, 46, 32, 112, 32, 59, 32, 114, 101, 116, 117, 114, 110, 32, 121, 32, 59, 32])) (ByteArray.mk #[125, 10]))) none) none) fun (r : ByteArray) => some r)) none) (P.cond (P.ieq x.fst ((2 : Int))) (P.cond (P.sfit (ByteArray.mk #[102, 117, 110, 32, 109, 97, 105, 110, 32, 40, 32, 41, 32, 123, 32]) (ByteArray.mk #[111, 48, 32, 61, 32, 110, 101, 119, 32, 123, 32, 112, 32, 58, 32, 55, 32, 125, 32, 112, 114, 111, 116, 111, 32, 110, 117, 108, 108, 32, 59, 32])) (P.bind (P.iter k (fun (y : ByteArray × Int) => P.cond (P.ile y.snd x.snd) (P.bind (ref26_d k y.snd) fun (r : ByteArray) => P.cond (P.sfit (ByteArray.mk #[111]) r) (P.cond (P.sfit (P.scat (ByteArray.mk #[111]) r) (ByteArray.mk #[32, 61, 32, 110, 101, 119, 32, 123, 32, 125, 32, 112, 114, 111, 116, 111, 32, 111])) (P.bind (ref26_d k (P.wrap IntKind.i64 (P.sub y.snd ((1 : Int))))) fun (r_1 : ByteArray) => P.cond (P.sfit (P.scat (P.scat (ByteArray.mk #[111]) r) (ByteArray.mk #[32, 61, 32, 110, 101, 119, 32, 123, 32, 125, 32, 112, 114, 111, 116, 111, 32, 111])) r_1) (P.cond (P.sfit (P.scat (P.scat (P.scat (ByteArray.mk #[111]) r) (ByteArray.mk #[32, 61, 32, 110, 101, 119, 32, 123, 32, 125, 32, 112, 114, 111, 116, 111, 32, 111])) r_1) (ByteArray.mk #[32, 59, 32])) (P.cond (P.sfit y.fst (P.scat (P.scat (P.scat (P.scat (ByteArray.mk #[111]) r) (ByteArray.mk #[32, 61, 32, 110, 101, 119, 32, 123, 32, 125, 32, 112, 114, 111, 116, 111, 32, 111])) r_1) (ByteArray.mk #[32, 59, 32]))) (some (Sum.inl (P.scat y.fst (P.scat (P.scat (P.scat (P.scat (ByteArray.mk #[111]) r) (ByteArray.mk #[32, 61, 32, 110, 101, 119, 32, 123, 32, 125, 32, 112, 114, 111, 116, 111, 32, 111])) r_1) (ByteArray.mk #[32, 59, 32])), P.wrap IntKind.i64 (P.add y.snd ((1 : Int)))))) none) none) none) none) none) (some (Sum.inr (Sum.inl y.fst)))) (P.scat (ByteArray.mk #[102, 117, 110, 32, 109, 97, 105, 110, 32, 40, 32, 41, 32, 123, 32]) (ByteArray.mk #[111, 48, 32, 61, 32, 110, 101, 119, 32, 123, 32, 112, 32, 58, 32, 55, 32, 125, 32, 112, 114, 111, 116, 111, 32, 110, 117, 108, 108, 32, 59, 32]), (1 : Int))) (P.either (fun (z : ByteArray) => P.bind (ref26_d k x.snd) fun (r : ByteArray) => P.cond (P.sfit (ByteArray.mk #[121, 32, 61, 32, 111]) r) (P.cond (P.sfit (P.scat (ByteArray.mk #[121, 32, 61, 32, 111]) r) (ByteArray.mk #[32, 46, 32, 112, 32, 59, 32, 114, 101, 116, 117, 114, 110, 32, 121, 32, 59, 32])) (P.cond (P.sfit z (P.scat (P.scat (ByteArray.mk #[121, 32, 61, 32, 111]) r) (ByteArray.mk #[32, 46, 32, 112, 32, 59, 32, 114, 101, 116, 117, 114, 110, 32, 121, 32, 59, 32]))) (P.cond (P.sfit (P.scat z (P.scat (P.scat (ByteArray.mk #[121, 32, 61, 32, 111]) r) (ByteArray.mk #[32, 46, 32, 112, 32, 59, 32, 114, 101, 116, 117, 114, 110, 32, 121, 32, 59, 32]))) (ByteArray.mk #[125, 10])) (some (P.scat (P.scat z (P.scat (P.scat (ByteArray.mk #[121, 32, 61, 32, 111]) r) (ByteArray.mk #[32, 46, 32, 112, 32, 59, 32, 114, 101, 116, 117, 114, 110, 32, 121, 32, 59, 32]))) (ByteArray.mk #[125, 10]))) none) none) none) none) fun (r : ByteArray) => some r)) none) (P.cond (P.ieq x.fst ((3 : Int))) (P.bind (ref26_d k x.snd) fun (r : ByteArray) => P.cond (P.sfit (ByteArray.mk #[105, 32, 61, 32, 48, 32, 59, 32, 98, 32, 61, 32, 105, 32, 60, 32]) r) (P.cond (P.sfit (P.scat (ByteArray.mk #[105, 32, 61, 32, 48, 32, 59, 32, 98, 32, 61, 32, 105, 32, 60, 32]) r) (ByteArray.mk #[32, 59, 32, 119, 104, 105, 108, 101, 32, 98, 32, 123, 32, 111, 32, 61, 32, 110, 101, 119, 32, 123, 32, 118, 32, 58, 32, 105, 32, 125, 32, 112, 114, 111, 116, 111, 32, 110, 117, 108, 108, 32, 59, 32, 105, 32, 61, 32, 105, 32, 43, 32, 49, 32, 59, 32, 98, 32, 61, 32, 105, 32, 60, 32])) (P.bind (ref26_d k x.snd) fun (r_1 : ByteArray) => P.cond (P.sfit (P.scat (P.scat (ByteArray.mk #[105, 32, 61, 32, 48, 32, 59, 32, 98, 32, 61, 32, 105, 32, 60, 32]) r) (ByteArray.mk #[32, 59, 32, 119, 104, 105, 108, 101, 32, 98, 32, 123, 32, 111, 32, 61, 32, 110, 101, 119, 32, 123, 32, 118, 32, 58, 32, 105, 32, 125, 32, 112, 114, 111, 116, 111, 32, 110, 117, 108, 108, 32, 59, 32, 105, 32, 61, 32, 105, 32, 43, 32, 49, 32, 59, 32, 98, 32, 61, 32, 105, 32, 60, 32])) r_1) (P.cond (P.sfit (P.scat (P.scat (P.scat (ByteArray.mk #[105, 32, 61, 32, 48, 32, 59, 32, 98, 32, 61, 32, 105, 32, 60, 32]) r) (ByteArray.mk #[32, 59, 32, 119, 104, 105, 108, 101, 32, 98, 32, 123, 32, 111, 32, 61, 32, 110, 101, 119, 32, 123, 32, 118, 32, 58, 32, 105, 32, 125, 32, 112, 114, 111, 116, 111, 32, 110, 117, 108, 108, 32, 59, 32, 105, 32, 61, 32, 105, 32, 43, 32, 49, 32, 59, 32, 98, 32, 61, 32, 105, 32, 60, 32])) r_1) (ByteArray.mk #[32, 59, 32, 125, 32, 114, 101, 116, 117, 114, 110, 32, 105, 32, 59, 32])) (P.cond (P.sfit (ByteArray.mk #[102, 117, 110, 32, 109, 97, 105, 110, 32, 40, 32, 41, 32, 123, 32]) (P.scat (P.scat (P.scat (P.scat (ByteArray.mk #[105, 32, 61, 32, 48, 32, 59, 32, 98, 32, 61, 32, 105, 32, 60, 32]) r) (ByteArray.mk #[32, 59, 32, 119, 104, 105, 108, 101, 32, 98, 32, 123, 32, 111, 32, 61, 32, 110, 101, 119, 32, 123, 32, 118, 32, 58, 32, 105, 32, 125, 32, 112, 114, 111, 116, 111, 32, 110, 117, 108, 108, 32, 59, 32, 105, 32, 61, 32, 105, 32, 43, 32, 49, 32, 59, 32, 98, 32, 61, 32, 105, 32, 60, 32])) r_1) (ByteArray.mk #[32, 59, 32, 125, 32, 114, 101, 116, 117, 114, 110, 32, 105, 32, 59, 32]))) (P.cond (P.sfit (P.scat (ByteArray.mk #[102, 117, 110, 32, 109, 97, 105, 110, 32, 40, 32, 41, 32, 123, 32]) (P.scat (P.scat (P.scat (P.scat (ByteArray.mk #[105, 32, 61, 32, 48, 32, 59, 32, 98, 32, 61, 32, 105, 32, 60, 32]) r) (ByteArray.mk #[32, 59, 32, 119, 104, 105, 108, 101, 32, 98, 32, 123, 32, 111, 32, 61, 32, 110, 101, 119, 32, 123, 32, 118, 32, 58, 32, 105, 32, 125, 32, 112, 114, 111, 116, 111, 32, 110, 117, 108, 108, 32, 59, 32, 105, 32, 61, 32, 105, 32, 43, 32, 49, 32, 59, 32, 98, 32, 61, 32, 105, 32, 60, 32])) r_1) (ByteArray.mk #[32, 59, 32, 125, 32, 114, 101, 116, 117, 114, 110, 32, 105, 32, 59, 32]))) (ByteArray.mk #[125, 10])) (some (P.scat (P.scat (ByteArray.mk #[102, 117, 110, 32, 109, 97, 105, 110, 32, 40, 32, 41, 32, 123, 32]) (P.scat (P.scat (P.scat (P.scat (ByteArray.mk #[105, 32, 61, 32, 48, 32, 59, 32, 98, 32, 61, 32, 105, 32, 60, 32]) r) (ByteArray.mk #[32, 59, 32, 119, 104, 105, 108, 101, 32, 98, 32, 123, 32, 111, 32, 61, 32, 110, 101, 119, 32, 123, 32, 118, 32, 58, 32, 105, 32, 125, 32, 112, 114, 111, 116, 111, 32, 110, 117, 108, 108, 32, 59, 32, 105, 32, 61, 32, 105, 32, 43, 32, 49, 32, 59, 32, 98, 32, 61, 32, 105, 32, 60, 32])) r_1) (ByteArray.mk #[32, 59, 32, 125, 32, 114, 101, 116, 117, 114, 110, 32, 105, 32, 59, 32]))) (ByteArray.mk #[125, 10]))) none) none) none) none) none) none) (P.cond (P.ieq x.fst ((4 : Int))) (P.cond (P.sfit (ByteArray.mk #[102, 117, 110, 32, 109, 97, 105, 110, 32, 40, 32, 41, 32, 123, 32]) (ByteArray.mk #[111, 32, 61, 32, 110, 101, 119, 32, 123, 32, 125, 32, 112, 114, 111, 116, 111, 32, 110, 117, 108, 108, 32, 59, 32, 120, 32, 61, 32, 110, 101, 119, 32, 123, 32, 125, 32, 112, 114, 111, 116, 111, 32, 111, 32, 59, 32])) (P.bind (P.iter k (fun (y : ByteArray × Int) => P.cond (P.ilt y.snd x.snd) (P.bind (ref26_d k y.snd) fun (r : ByteArray) => P.cond (P.sfit (ByteArray.mk #[111, 32, 46, 32, 112]) r) (P.cond (P.sfit (P.scat (ByteArray.mk #[111, 32, 46, 32, 112]) r) (ByteArray.mk #[32, 61, 32])) (P.bind (ref26_d k y.snd) fun (r_1 : ByteArray) => P.cond (P.sfit (P.scat (P.scat (ByteArray.mk #[111, 32, 46, 32, 112]) r) (ByteArray.mk #[32, 61, 32])) r_1) (P.cond (P.sfit (P.scat (P.scat (P.scat (ByteArray.mk #[111, 32, 46, 32, 112]) r) (ByteArray.mk #[32, 61, 32])) r_1) (ByteArray.mk #[32, 59, 32])) (P.cond (P.sfit y.fst (P.scat (P.scat (P.scat (P.scat (ByteArray.mk #[111, 32, 46, 32, 112]) r) (ByteArray.mk #[32, 61, 32])) r_1) (ByteArray.mk #[32, 59, 32]))) (some (Sum.inl (P.scat y.fst (P.scat (P.scat (P.scat (P.scat (ByteArray.mk #[111, 32, 46, 32, 112]) r) (ByteArray.mk #[32, 61, 32])) r_1) (ByteArray.mk #[32, 59, 32])), P.wrap IntKind.i64 (P.add y.snd ((1 : Int)))))) none) none) none) none) none) (some (Sum.inr (Sum.inl y.fst)))) (P.scat (ByteArray.mk #[102, 117, 110, 32, 109, 97, 105, 110, 32, 40, 32, 41, 32, 123, 32]) (ByteArray.mk #[111, 32, 61, 32, 110, 101, 119, 32, 123, 32, 125, 32, 112, 114, 111, 116, 111, 32, 110, 117, 108, 108, 32, 59, 32, 120, 32, 61, 32, 110, 101, 119, 32, 123, 32, 125, 32, 112, 114, 111, 116, 111, 32, 111, 32, 59, 32]), (0 : Int))) (P.either (fun (z : ByteArray) => P.bind (ref26_d k (P.wrap IntKind.i64 (P.sub x.snd ((1 : Int))))) fun (r : ByteArray) => P.cond (P.sfit (ByteArray.mk #[121, 32, 61, 32, 120, 32, 46, 32, 112]) r) (P.cond (P.sfit (P.scat (ByteArray.mk #[121, 32, 61, 32, 120, 32, 46, 32, 112]) r) (ByteArray.mk #[32, 59, 32, 114, 101, 116, 117, 114, 110, 32, 121, 32, 59, 32])) (P.cond (P.sfit z (P.scat (P.scat (ByteArray.mk #[121, 32, 61, 32, 120, 32, 46, 32, 112]) r) (ByteArray.mk #[32, 59, 32, 114, 101, 116, 117, 114, 110, 32, 121, 32, 59, 32]))) (P.cond (P.sfit (P.scat z (P.scat (P.scat (ByteArray.mk #[121, 32, 61, 32, 120, 32, 46, 32, 112]) r) (ByteArray.mk #[32, 59, 32, 114, 101, 116, 117, 114, 110, 32, 121, 32, 59, 32]))) (ByteArray.mk #[125, 10])) (some (P.scat (P.scat z (P.scat (P.scat (ByteArray.mk #[121, 32, 61, 32, 120, 32, 46, 32, 112]) r) (ByteArray.mk #[32, 59, 32, 114, 101, 116, 117, 114, 110, 32, 121, 32, 59, 32]))) (ByteArray.mk #[125, 10]))) none) none) none) none) fun (r : ByteArray) => some r)) none) (P.cond (P.sfit (ByteArray.mk #[102, 117, 110, 32, 109, 97, 105, 110, 32, 40, 32, 41, 32, 123, 32]) (ByteArray.mk #[125, 10])) (some (P.scat (ByteArray.mk #[102, 117, 110, 32, 109, 97, 105, 110, 32, 40, 32, 41, 32, 123, 32]) (ByteArray.mk #[125, 10]))) none))))))
theorem ref26_Text_eq (k : Nat) (x : (Ty.D (.pair (.int .i64) (.int .i64)))) : evFn (EN k [(34, ⟨(.pair (.int .i64) (.int .i64)), .bool, ref26_Is k⟩), (35, ⟨(.int .i64), .str, ref26_d k⟩)]) 6 Tryd.f11 [(8, ⟨[.var 5 (.d .str), .var 6 (.d (.int .i64))], [], (some (1, [.var 5 (.d .str)]))⟩), (17, ⟨[.var 5 (.d .str), .var 7 (.d (.int .i64))], [], (some (3, [.var 5 (.d .str)]))⟩), (26, ⟨[.var 5 (.d .str), .var 8 (.d (.int .i64))], [], (some (5, [.var 5 (.d .str)]))⟩), (35, ⟨[.var 5 (.d .str), .var 9 (.d (.int .i64))], [], (some (7, [.var 5 (.d .str)]))⟩)] (.pair (.int .i64) (.int .i64)) .str x = ref26_Text k x := by kernel_rfl
theorem ref26_Text_spec (k : Nat) : SpecOk Tryd.prog GG 11 ⟨(.pair (.int .i64) (.int .i64)), .str, ref26_Text k⟩ :=
  fn_spec (envOk (E := EN k [(34, ⟨(.pair (.int .i64) (.int .i64)), .bool, ref26_Is k⟩), (35, ⟨(.int .i64), .str, ref26_d k⟩)]) tabOk (.cons (ref26_Is_spec k) f34_at f34_ok <| .cons (ref26_d_spec k) f35_at f35_ok <| .nil) codesOk mixedOk ggKeep) f11_at (fun x => (ref26_Text_eq k x).symm)
noncomputable def ref26_Value : (k : Nat) → (Ty.D (.pair (.int .i64) (.int .i64))) → Option (Ty.D T_api_Val) := fun (k : Nat) (x : ((Ty.int IntKind.i64).pair (Ty.int IntKind.i64)).D) => P.bind (ref26_Is k (x.fst, x.snd)) fun (r : Bool) => P.cond (P.not r) (some ((0 : Int), (0 : Int))) (P.cond (P.ieq x.fst ((1 : Int))) (P.cond (P.not (P.ieq ((2 : Int)) ((0 : Int)))) (P.cond (P.ieq (P.rem x.snd ((2 : Int))) ((1 : Int))) (some ((1 : Int), (1 : Int))) (P.cond (P.inb x.fst (P.len [P.wrap IntKind.i64 (P.sub x.snd ((1 : Int))), x.snd, (7 : Int), x.snd, P.wrap IntKind.i64 (P.sub x.snd ((1 : Int)))])) (some ((2 : Int), P.get [P.wrap IntKind.i64 (P.sub x.snd ((1 : Int))), x.snd, (7 : Int), x.snd, P.wrap IntKind.i64 (P.sub x.snd ((1 : Int)))] x.fst ((0 : Int)))) none)) none) (P.cond (P.inb x.fst (P.len [P.wrap IntKind.i64 (P.sub x.snd ((1 : Int))), x.snd, (7 : Int), x.snd, P.wrap IntKind.i64 (P.sub x.snd ((1 : Int)))])) (some ((2 : Int), P.get [P.wrap IntKind.i64 (P.sub x.snd ((1 : Int))), x.snd, (7 : Int), x.snd, P.wrap IntKind.i64 (P.sub x.snd ((1 : Int)))] x.fst ((0 : Int)))) none))
theorem ref26_Value_eq (k : Nat) (x : (Ty.D (.pair (.int .i64) (.int .i64)))) : evFn (EN k [(34, ⟨(.pair (.int .i64) (.int .i64)), .bool, ref26_Is k⟩)]) 6 Tryd.f13 [] (.pair (.int .i64) (.int .i64)) T_api_Val x = ref26_Value k x := by kernel_rfl
theorem ref26_Value_spec (k : Nat) : SpecOk Tryd.prog GG 13 ⟨(.pair (.int .i64) (.int .i64)), T_api_Val, ref26_Value k⟩ :=
  fn_spec (envOk (E := EN k [(34, ⟨(.pair (.int .i64) (.int .i64)), .bool, ref26_Is k⟩)]) tabOk (.cons (ref26_Is_spec k) f34_at f34_ok <| .nil) codesOk mixedOk ggKeep) f13_at (fun x => (ref26_Value_eq k x).symm)
noncomputable def ref26_Steps : (k : Nat) → (Ty.D (.pair (.int .i64) (.int .i64))) → Option (Ty.D (.int .i64)) := fun (k : Nat) (x : ((Ty.int IntKind.i64).pair (Ty.int IntKind.i64)).D) => P.bind (ref26_Is k (x.fst, x.snd)) fun (r : Bool) => P.cond (P.not r) (some ((0 : Int))) (P.cond (P.inb x.fst (P.len [(3 : Int), P.wrap IntKind.i64 (P.add x.snd ((3 : Int))), P.wrap IntKind.i64 (P.add x.snd ((3 : Int))), P.wrap IntKind.i64 (P.add ((4 : Int)) (P.wrap IntKind.i64 (P.mul ((4 : Int)) x.snd))), P.wrap IntKind.i64 (P.add x.snd ((4 : Int)))])) (some (P.get [(3 : Int), P.wrap IntKind.i64 (P.add x.snd ((3 : Int))), P.wrap IntKind.i64 (P.add x.snd ((3 : Int))), P.wrap IntKind.i64 (P.add ((4 : Int)) (P.wrap IntKind.i64 (P.mul ((4 : Int)) x.snd))), P.wrap IntKind.i64 (P.add x.snd ((4 : Int)))] x.fst ((0 : Int)))) none)
theorem ref26_Steps_eq (k : Nat) (x : (Ty.D (.pair (.int .i64) (.int .i64)))) : evFn (EN k [(34, ⟨(.pair (.int .i64) (.int .i64)), .bool, ref26_Is k⟩)]) 6 Tryd.f15 [] (.pair (.int .i64) (.int .i64)) (.int .i64) x = ref26_Steps k x := by kernel_rfl
theorem ref26_Steps_spec (k : Nat) : SpecOk Tryd.prog GG 15 ⟨(.pair (.int .i64) (.int .i64)), (.int .i64), ref26_Steps k⟩ :=
  fn_spec (envOk (E := EN k [(34, ⟨(.pair (.int .i64) (.int .i64)), .bool, ref26_Is k⟩)]) tabOk (.cons (ref26_Is_spec k) f34_at f34_ok <| .nil) codesOk mixedOk ggKeep) f15_at (fun x => (ref26_Steps_eq k x).symm)
noncomputable def law26_FamilyTells : (k : Nat) → (Ty.D (.pair (.int .i64) (.int .i64))) → Option (Ty.D .bool) := fun (k : Nat) (x : ((Ty.int IntKind.i64).pair (Ty.int IntKind.i64)).D) => P.bind (law26_fixed k PUnit.unit) fun (r : Bool) => P.cond r (P.bind (family_Text k (x.fst, x.snd)) fun (r : ByteArray) => P.bind (ref26_Text k (x.fst, x.snd)) fun (r_1 : ByteArray) => P.cond (P.seq r r_1) (P.bind (family_Value k (x.fst, x.snd)) fun (r : Int × Int) => P.bind (ref26_Value k (x.fst, x.snd)) fun (r_2 : Int × Int) => P.cond (P.and (P.ieq r.fst r_2.fst) (P.ieq r.snd r_2.snd)) (P.bind (family_Steps k (x.fst, x.snd)) fun (r : Int) => P.bind (ref26_Steps k (x.fst, x.snd)) fun (r_3 : Int) => some (P.ieq r r_3)) (some false)) (some false)) (some false)
theorem law26_FamilyTells_eq (k : Nat) (x : (Ty.D (.pair (.int .i64) (.int .i64)))) : evFn (EN k [(9, ⟨.unit, .bool, law26_fixed k⟩), (10, ⟨(.pair (.int .i64) (.int .i64)), .str, family_Text k⟩), (11, ⟨(.pair (.int .i64) (.int .i64)), .str, ref26_Text k⟩), (12, ⟨(.pair (.int .i64) (.int .i64)), T_api_Val, family_Value k⟩), (13, ⟨(.pair (.int .i64) (.int .i64)), T_api_Val, ref26_Value k⟩), (14, ⟨(.pair (.int .i64) (.int .i64)), (.int .i64), family_Steps k⟩), (15, ⟨(.pair (.int .i64) (.int .i64)), (.int .i64), ref26_Steps k⟩)]) 6 Tryd.f3 [] (.pair (.int .i64) (.int .i64)) .bool x = law26_FamilyTells k x := by kernel_rfl
theorem law26_FamilyTells_spec (k : Nat) : SpecOk Tryd.prog GG 3 ⟨(.pair (.int .i64) (.int .i64)), .bool, law26_FamilyTells k⟩ :=
  fn_spec (envOk (E := EN k [(9, ⟨.unit, .bool, law26_fixed k⟩), (10, ⟨(.pair (.int .i64) (.int .i64)), .str, family_Text k⟩), (11, ⟨(.pair (.int .i64) (.int .i64)), .str, ref26_Text k⟩), (12, ⟨(.pair (.int .i64) (.int .i64)), T_api_Val, family_Value k⟩), (13, ⟨(.pair (.int .i64) (.int .i64)), T_api_Val, ref26_Value k⟩), (14, ⟨(.pair (.int .i64) (.int .i64)), (.int .i64), family_Steps k⟩), (15, ⟨(.pair (.int .i64) (.int .i64)), (.int .i64), ref26_Steps k⟩)]) tabOk (.cons (law26_fixed_spec k) f9_at f9_ok <| .cons (family_Text_spec k) f10_at f10_ok <| .cons (ref26_Text_spec k) f11_at f11_ok <| .cons (family_Value_spec k) f12_at f12_ok <| .cons (ref26_Value_spec k) f13_at f13_ok <| .cons (family_Steps_spec k) f14_at f14_ok <| .cons (ref26_Steps_spec k) f15_at f15_ok <| .nil) codesOk mixedOk ggKeep) f3_at (fun x => (law26_FamilyTells_eq k x).symm)
noncomputable def law26_FamilyUnlike : (k : Nat) → (Ty.D (.st (.pair (.int .i64) (.pair (.int .i64) (.pair (.int .i64) (.int .i64)))))) → Option (Ty.D .bool) := fun (k : Nat) (x : ((Ty.int IntKind.i64).pair ((Ty.int IntKind.i64).pair ((Ty.int IntKind.i64).pair (Ty.int IntKind.i64)))).st.D) =>
  P.cond (P.ieq ((0 : Int)) ((0 : Int))) (P.cond (P.ieq ((1 : Int)) ((0 : Int))) (P.cond (P.ieq ((2 : Int)) ((0 : Int))) (P.cond (P.ieq ((3 : Int)) ((0 : Int))) (P.bind (family_Text k (x.fst, x.fst)) fun (r : ByteArray) => P.bind (family_Text k (x.fst, x.fst)) fun (r_1 : ByteArray) => P.bind (law26_fixed k PUnit.unit) fun (r_2 : Bool) => P.cond r_2 (P.cond (P.seq r (ByteArray.mk #[])) (some true) (P.cond (P.seq r_1 (ByteArray.mk #[])) (some true) (P.cond (P.ieq x.fst x.fst) (some (P.beq (P.seq r r_1) (P.ieq x.fst x.fst))) (some (P.beq (P.seq r r_1) false))))) (some false)) (P.cond (P.ieq ((3 : Int)) ((1 : Int))) (P.bind (family_Text k (x.fst, x.fst)) fun (r : ByteArray) => P.bind (family_Text k (x.fst, x.snd.fst)) fun (r_1 : ByteArray) => P.bind (law26_fixed k PUnit.unit) fun (r_2 : Bool) => P.cond r_2 (P.cond (P.seq r (ByteArray.mk #[])) (some true) (P.cond (P.seq r_1 (ByteArray.mk #[])) (some true) (P.cond (P.ieq x.fst x.fst) (some (P.beq (P.seq r r_1) (P.ieq x.fst x.snd.fst))) (some (P.beq (P.seq r r_1) false))))) (some false)) (P.cond (P.ieq ((3 : Int)) ((2 : Int))) (P.bind (family_Text k (x.fst, x.fst)) fun (r : ByteArray) => P.bind (family_Text k (x.fst, x.snd.snd.fst)) fun (r_1 : ByteArray) => P.bind (law26_fixed k PUnit.unit) fun (r_2 : Bool) => P.cond r_2 (P.cond (P.seq r (ByteArray.mk #[])) (some true) (P.cond (P.seq r_1 (ByteArray.mk #[])) (some true) (P.cond (P.ieq x.fst x.fst) (some (P.beq (P.seq r r_1) (P.ieq x.fst x.snd.snd.fst))) (some (P.beq (P.seq r r_1) false))))) (some false)) (P.cond (P.ieq ((3 : Int)) ((3 : Int))) (P.bind (family_Text k (x.fst, x.fst)) fun (r : ByteArray) => P.bind (family_Text k (x.fst, x.snd.snd.snd)) fun (r_1 : ByteArray) => P.bind (law26_fixed k PUnit.unit) fun (r_2 : Bool) => P.cond r_2 (P.cond (P.seq r (ByteArray.mk #[])) (some true) (P.cond (P.seq r_1 (ByteArray.mk #[])) (some true) (P.cond (P.ieq x.fst x.fst) (some (P.beq (P.seq r r_1) (P.ieq x.fst x.snd.snd.snd))) (some (P.beq (P.seq r r_1) false))))) (some false)) none)))) (P.cond (P.ieq ((2 : Int)) ((1 : Int))) (P.cond (P.ieq ((3 : Int)) ((0 : Int))) (P.bind (family_Text k (x.fst, x.fst)) fun (r : ByteArray) => P.bind (family_Text k (x.snd.fst, x.fst)) fun (r_1 : ByteArray) => P.bind (law26_fixed k PUnit.unit) fun (r_2 : Bool) => P.cond r_2 (P.cond (P.seq r (ByteArray.mk #[])) (some true) (P.cond (P.seq r_1 (ByteArray.mk #[])) (some true) (P.cond (P.ieq x.fst x.snd.fst) (some (P.beq (P.seq r r_1) (P.ieq x.fst x.fst))) (some (P.beq (P.seq r r_1) false))))) (some false)) (P.cond (P.ieq ((3 : Int)) ((1 : Int))) (P.bind (family_Text k (x.fst, x.fst)) fun (r : ByteArray) => P.bind (family_Text k (x.snd.fst, x.snd.fst)) fun (r_1 : ByteArray) => P.bind (law26_fixed k PUnit.unit) fun (r_2 : Bool) => P.cond r_2 (P.cond (P.seq r (ByteArray.mk #[])) (some true) (P.cond (P.seq r_1 (ByteArray.mk #[])) (some true) (P.cond (P.ieq x.fst x.snd.fst) (some (P.beq (P.seq r r_1) (P.ieq x.fst x.snd.fst))) (some (P.beq (P.seq r r_1) false))))) (some false)) (P.cond (P.ieq ((3 : Int)) ((2 : Int))) (P.bind (family_Text k (x.fst, x.fst)) fun (r : ByteArray) => P.bind (family_Text k (x.snd.fst, x.snd.snd.fst)) fun (r_1 : ByteArray) => P.bind (law26_fixed k PUnit.unit) fun (r_2 : Bool) => P.cond r_2 (P.cond (P.seq r (ByteArray.mk #[])) (some true) (P.cond (P.seq r_1 (ByteArray.mk #[])) (some true) (P.cond (P.ieq x.fst x.snd.fst) (some (P.beq (P.seq r r_1) (P.ieq x.fst x.snd.snd.fst))) (some (P.beq (P.seq r r_1) false))))) (some false)) (P.cond (P.ieq ((3 : Int)) ((3 : Int))) (P.bind (family_Text k (x.fst, x.fst)) fun (r : ByteArray) => P.bind (family_Text k (x.snd.fst, x.snd.snd.snd)) fun (r_1 : ByteArray) => P.bind (law26_fixed k PUnit.unit) fun (r_2 : Bool) => P.cond r_2 (P.cond (P.seq r (ByteArray.mk #[])) (some true) (P.cond (P.seq r_1 (ByteArray.mk #[])) (some true) (P.cond (P.ieq x.fst x.snd.fst) (some (P.beq (P.seq r r_1) (P.ieq x.fst x.snd.snd.snd))) (some (P.beq (P.seq r r_1) false))))) (some false)) none)))) (P.cond (P.ieq ((2 : Int)) ((2 : Int))) (P.cond (P.ieq ((3 : Int)) ((0 : Int))) (P.bind (family_Text k (x.fst, x.fst)) fun (r : ByteArray) => P.bind (family_Text k (x.snd.snd.fst, x.fst)) fun (r_1 : ByteArray) => P.bind (law26_fixed k PUnit.unit) fun (r_2 : Bool) => P.cond r_2 (P.cond (P.seq r (ByteArray.mk #[])) (some true) (P.cond (P.seq r_1 (ByteArray.mk #[])) (some true) (P.cond (P.ieq x.fst x.snd.snd.fst) (some (P.beq (P.seq r r_1) (P.ieq x.fst x.fst))) (some (P.beq (P.seq r r_1) false))))) (some false)) (P.cond (P.ieq ((3 : Int)) ((1 : Int))) (P.bind (family_Text k (x.fst, x.fst)) fun (r : ByteArray) => P.bind (family_Text k (x.snd.snd.fst, x.snd.fst)) fun (r_1 : ByteArray) => P.bind (law26_fixed k PUnit.unit) fun (r_2 : Bool) => P.cond r_2 (P.cond (P.seq r (ByteArray.mk #[])) (some true) (P.cond (P.seq r_1 (ByteArray.mk #[])) (some true) (P.cond (P.ieq x.fst x.snd.snd.fst) (some (P.beq (P.seq r r_1) (P.ieq x.fst x.snd.fst))) (some (P.beq (P.seq r r_1) false))))) (some false)) (P.cond (P.ieq ((3 : Int)) ((2 : Int))) (P.bind (family_Text k (x.fst, x.fst)) fun (r : ByteArray) => P.bind (family_Text k (x.snd.snd.fst, x.snd.snd.fst)) fun (r_1 : ByteArray) => P.bind (law26_fixed k PUnit.unit) fun (r_2 : Bool) => P.cond r_2 (P.cond (P.seq r (ByteArray.mk #[])) (some true) (P.cond (P.seq r_1 (ByteArray.mk #[])) (some true) (P.cond (P.ieq x.fst x.snd.snd.fst) (some (P.beq (P.seq r r_1) (P.ieq x.fst x.snd.snd.fst))) (some (P.beq (P.seq r r_1) false))))) (some false)) (P.cond (P.ieq ((3 : Int)) ((3 : Int))) (P.bind (family_Text k (x.fst, x.fst)) fun (r : ByteArray) => P.bind (family_Text k (x.snd.snd.fst, x.snd.snd.snd)) fun (r_1 : ByteArray) => P.bind (law26_fixed k PUnit.unit) fun (r_2 : Bool) => P.cond r_2 (P.cond (P.seq r (ByteArray.mk #[])) (some true) (P.cond (P.seq r_1 (ByteArray.mk #[])) (some true) (P.cond (P.ieq x.fst x.snd.snd.fst) (some (P.beq (P.seq r r_1) (P.ieq x.fst x.snd.snd.snd))) (some (P.beq (P.seq r r_1) false))))) (some false)) none)))) (P.cond (P.ieq ((2 : Int)) ((3 : Int))) (P.cond (P.ieq ((3 : Int)) ((0 : Int))) (P.bind (family_Text k (x.fst, x.fst)) fun (r : ByteArray) => P.bind (family_Text k (x.snd.snd.snd, x.fst)) fun (r_1 : ByteArray) => P.bind (law26_fixed k PUnit.unit) fun (r_2 : Bool) => P.cond r_2 (P.cond (P.seq r (ByteArray.mk #[])) (some true) (P.cond (P.seq r_1 (ByteArray.mk #[])) (some true) (P.cond (P.ieq x.fst x.snd.snd.snd) (some (P.beq (P.seq r r_1) (P.ieq x.fst x.fst))) (some (P.beq (P.seq r r_1) false))))) (some false)) (P.cond (P.ieq ((3 : Int)) ((1 : Int))) (P.bind (family_Text k (x.fst, x.fst)) fun (r : ByteArray) => P.bind (family_Text k (x.snd.snd.snd, x.snd.fst)) fun (r_1 : ByteArray) => P.bind (law26_fixed k PUnit.unit) fun (r_2 : Bool) => P.cond r_2 (P.cond (P.seq r (ByteArray.mk #[])) (some true) (P.cond (P.seq r_1 (ByteArray.mk #[])) (some true) (P.cond (P.ieq x.fst x.snd.snd.snd) (some (P.beq (P.seq r r_1) (P.ieq x.fst x.snd.fst))) (some (P.beq (P.seq r r_1) false))))) (some false)) (P.cond (P.ieq ((3 : Int)) ((2 : Int))) (P.bind (family_Text k (x.fst, x.fst)) fun (r : ByteArray) => P.bind (family_Text k (x.snd.snd.snd, x.snd.snd.fst)) fun (r_1 : ByteArray) => P.bind (law26_fixed k PUnit.unit) fun (r_2 : Bool) => P.cond r_2 (P.cond (P.seq r (ByteArray.mk #[])) (some true) (P.cond (P.seq r_1 (ByteArray.mk #[])) (some true) (P.cond (P.ieq x.fst x.snd.snd.snd) (some (P.beq (P.seq r r_1) (P.ieq x.fst x.snd.snd.fst))) (some (P.beq (P.seq r r_1) false))))) (some false)) (P.cond (P.ieq ((3 : Int)) ((3 : Int))) (P.bind (family_Text k (x.fst, x.fst)) fun (r : ByteArray) => P.bind (family_Text k (x.snd.snd.snd, x.snd.snd.snd)) fun (r_1 : ByteArray) => P.bind (law26_fixed k PUnit.unit) fun (r_2 : Bool) => P.cond r_2 (P.cond (P.seq r (ByteArray.mk #[])) (some true) (P.cond (P.seq r_1 (ByteArray.mk #[])) (some true) (P.cond (P.ieq x.fst x.snd.snd.snd) (some (P.beq (P.seq r r_1) (P.ieq x.fst x.snd.snd.snd))) (some (P.beq (P.seq r r_1) false))))) (some false)) none)))) none)))) (P.cond (P.ieq ((1 : Int)) ((1 : Int))) (P.cond (P.ieq ((2 : Int)) ((0 : Int))) (P.cond (P.ieq ((3 : Int)) ((0 : Int))) (P.bind (family_Text k (x.fst, x.snd.fst)) fun (r : ByteArray) => P.bind (family_Text k (x.fst, x.fst)) fun (r_1 : ByteArray) => P.bind (law26_fixed k PUnit.unit) fun (r_2 : Bool) => P.cond r_2 (P.cond (P.seq r (ByteArray.mk #[])) (some true) (P.cond (P.seq r_1 (ByteArray.mk #[])) (some true) (P.cond (P.ieq x.fst x.fst) (some (P.beq (P.seq r r_1) (P.ieq x.snd.fst x.fst))) (some (P.beq (P.seq r r_1) false))))) (some false)) (P.cond (P.ieq ((3 : Int)) ((1 : Int))) (P.bind (family_Text k (x.fst, x.snd.fst)) fun (r : ByteArray) => P.bind (family_Text k (x.fst, x.snd.fst)) fun (r_1 : ByteArray) => P.bind (law26_fixed k PUnit.unit) fun (r_2 : Bool) => P.cond r_2 (P.cond (P.seq r (ByteArray.mk #[])) (some true) (P.cond (P.seq r_1 (ByteArray.mk #[])) (some true) (P.cond (P.ieq x.fst x.fst) (some (P.beq (P.seq r r_1) (P.ieq x.snd.fst x.snd.fst))) (some (P.beq (P.seq r r_1) false))))) (some false)) (P.cond (P.ieq ((3 : Int)) ((2 : Int))) (P.bind (family_Text k (x.fst, x.snd.fst)) fun (r : ByteArray) => P.bind (family_Text k (x.fst, x.snd.snd.fst)) fun (r_1 : ByteArray) => P.bind (law26_fixed k PUnit.unit) fun (r_2 : Bool) => P.cond r_2 (P.cond (P.seq r (ByteArray.mk #[])) (some true) (P.cond (P.seq r_1 (ByteArray.mk #[])) (some true) (P.cond (P.ieq x.fst x.fst) (some (P.beq (P.seq r r_1) (P.ieq x.snd.fst x.snd.snd.fst))) (some (P.beq (P.seq r r_1) false))))) (some false)) (P.cond (P.ieq ((3 : Int)) ((3 : Int))) (P.bind (family_Text k (x.fst, x.snd.fst)) fun (r : ByteArray) => P.bind (family_Text k (x.fst, x.snd.snd.snd)) fun (r_1 : ByteArray) => P.bind (law26_fixed k PUnit.unit) fun (r_2 : Bool) => P.cond r_2 (P.cond (P.seq r (ByteArray.mk #[])) (some true) (P.cond (P.seq r_1 (ByteArray.mk #[])) (some true) (P.cond (P.ieq x.fst x.fst) (some (P.beq (P.seq r r_1) (P.ieq x.snd.fst x.snd.snd.snd))) (some (P.beq (P.seq r r_1) false))))) (some false)) none)))) (P.cond (P.ieq ((2 : Int)) ((1 : Int))) (P.cond (P.ieq ((3 : Int)) ((0 : Int))) (P.bind (family_Text k (x.fst, x.snd.fst)) fun (r : ByteArray) => P.bind (family_Text k (x.snd.fst, x.fst)) fun (r_1 : ByteArray) => P.bind (law26_fixed k PUnit.unit) fun (r_2 : Bool) => P.cond r_2 (P.cond (P.seq r (ByteArray.mk #[])) (some true) (P.cond (P.seq r_1 (ByteArray.mk #[])) (some true) (P.cond (P.ieq x.fst x.snd.fst) (some (P.beq (P.seq r r_1) (P.ieq x.snd.fst x.fst))) (some (P.beq (P.seq r r_1) false))))) (some false)) (P.cond (P.ieq ((3 : Int)) ((1 : Int))) (P.bind (family_Text k (x.fst, x.snd.fst)) fun (r : ByteArray) => P.bind (family_Text k (x.snd.fst, x.snd.fst)) fun (r_1 : ByteArray) => P.bind (law26_fixed k PUnit.unit) fun (r_2 : Bool) => P.cond r_2 (P.cond (P.seq r (ByteArray.mk #[])) (some true) (P.cond (P.seq r_1 (ByteArray.mk #[])) (some true) (P.cond (P.ieq x.fst x.snd.fst) (some (P.beq (P.seq r r_1) (P.ieq x.snd.fst x.snd.fst))) (some (P.beq (P.seq r r_1) false))))) (some false)) (P.cond (P.ieq ((3 : Int)) ((2 : Int))) (P.bind (family_Text k (x.fst, x.snd.fst)) fun (r : ByteArray) => P.bind (family_Text k (x.snd.fst, x.snd.snd.fst)) fun (r_1 : ByteArray) => P.bind (law26_fixed k PUnit.unit) fun (r_2 : Bool) => P.cond r_2 (P.cond (P.seq r (ByteArray.mk #[])) (some true) (P.cond (P.seq r_1 (ByteArray.mk #[])) (some true) (P.cond (P.ieq x.fst x.snd.fst) (some (P.beq (P.seq r r_1) (P.ieq x.snd.fst x.snd.snd.fst))) (some (P.beq (P.seq r r_1) false))))) (some false)) (P.cond (P.ieq ((3 : Int)) ((3 : Int))) (P.bind (family_Text k (x.fst, x.snd.fst)) fun (r : ByteArray) => P.bind (family_Text k (x.snd.fst, x.snd.snd.snd)) fun (r_1 : ByteArray) => P.bind (law26_fixed k PUnit.unit) fun (r_2 : Bool) => P.cond r_2 (P.cond (P.seq r (ByteArray.mk #[])) (some true) (P.cond (P.seq r_1 (ByteArray.mk #[])) (some true) (P.cond (P.ieq x.fst x.snd.fst) (some (P.beq (P.seq r r_1) (P.ieq x.snd.fst x.snd.snd.snd))) (some (P.beq (P.seq r r_1) false))))) (some false)) none)))) (P.cond (P.ieq ((2 : Int)) ((2 : Int))) (P.cond (P.ieq ((3 : Int)) ((0 : Int))) (P.bind (family_Text k (x.fst, x.snd.fst)) fun (r : ByteArray) => P.bind (family_Text k (x.snd.snd.fst, x.fst)) fun (r_1 : ByteArray) => P.bind (law26_fixed k PUnit.unit) fun (r_2 : Bool) => P.cond r_2 (P.cond (P.seq r (ByteArray.mk #[])) (some true) (P.cond (P.seq r_1 (ByteArray.mk #[])) (some true) (P.cond (P.ieq x.fst x.snd.snd.fst) (some (P.beq (P.seq r r_1) (P.ieq x.snd.fst x.fst))) (some (P.beq (P.seq r r_1) false))))) (some false)) (P.cond (P.ieq ((3 : Int)) ((1 : Int))) (P.bind (family_Text k (x.fst, x.snd.fst)) fun (r : ByteArray) => P.bind (family_Text k (x.snd.snd.fst, x.snd.fst)) fun (r_1 : ByteArray) => P.bind (law26_fixed k PUnit.unit) fun (r_2 : Bool) => P.cond r_2 (P.cond (P.seq r (ByteArray.mk #[])) (some true) (P.cond (P.seq r_1 (ByteArray.mk #[])) (some true) (P.cond (P.ieq x.fst x.snd.snd.fst) (some (P.beq (P.seq r r_1) (P.ieq x.snd.fst x.snd.fst))) (some (P.beq (P.seq r r_1) false))))) (some false)) (P.cond (P.ieq ((3 : Int)) ((2 : Int))) (P.bind (family_Text k (x.fst, x.snd.fst)) fun (r : ByteArray) => P.bind (family_Text k (x.snd.snd.fst, x.snd.snd.fst)) fun (r_1 : ByteArray) => P.bind (law26_fixed k PUnit.unit) fun (r_2 : Bool) => P.cond r_2 (P.cond (P.seq r (ByteArray.mk #[])) (some true) (P.cond (P.seq r_1 (ByteArray.mk #[])) (some true) (P.cond (P.ieq x.fst x.snd.snd.fst) (some (P.beq (P.seq r r_1) (P.ieq x.snd.fst x.snd.snd.fst))) (some (P.beq (P.seq r r_1) false))))) (some false)) (P.cond (P.ieq ((3 : Int)) ((3 : Int))) (P.bind (family_Text k (x.fst, x.snd.fst)) fun (r : ByteArray) => P.bind (family_Text k (x.snd.snd.fst, x.snd.snd.snd)) fun (r_1 : ByteArray) => P.bind (law26_fixed k PUnit.unit) fun (r_2 : Bool) => P.cond r_2 (P.cond (P.seq r (ByteArray.mk #[])) (some true) (P.cond (P.seq r_1 (ByteArray.mk #[])) (some true) (P.cond (P.ieq x.fst x.snd.snd.fst) (some (P.beq (P.seq r r_1) (P.ieq x.snd.fst x.snd.snd.snd))) (some (P.beq (P.seq r r_1) false))))) (some false)) none)))) (P.cond (P.ieq ((2 : Int)) ((3 : Int))) (P.cond (P.ieq ((3 : Int)) ((0 : Int))) (P.bind (family_Text k (x.fst, x.snd.fst)) fun (r : ByteArray) => P.bind (family_Text k (x.snd.snd.snd, x.fst)) fun (r_1 : ByteArray) => P.bind (law26_fixed k PUnit.unit) fun (r_2 : Bool) => P.cond r_2 (P.cond (P.seq r (ByteArray.mk #[])) (some true) (P.cond (P.seq r_1 (ByteArray.mk #[])) (some true) (P.cond (P.ieq x.fst x.snd.snd.snd) (some (P.beq (P.seq r r_1) (P.ieq x.snd.fst x.fst))) (some (P.beq (P.seq r r_1) false))))) (some false)) (P.cond (P.ieq ((3 : Int)) ((1 : Int))) (P.bind (family_Text k (x.fst, x.snd.fst)) fun (r : ByteArray) => P.bind (family_Text k (x.snd.snd.snd, x.snd.fst)) fun (r_1 : ByteArray) => P.bind (law26_fixed k PUnit.unit) fun (r_2 : Bool) => P.cond r_2 (P.cond (P.seq r (ByteArray.mk #[])) (some true) (P.cond (P.seq r_1 (ByteArray.mk #[])) (some true) (P.cond (P.ieq x.fst x.snd.snd.snd) (some (P.beq (P.seq r r_1) (P.ieq x.snd.fst x.snd.fst))) (some (P.beq (P.seq r r_1) false))))) (some false)) (P.cond (P.ieq ((3 : Int)) ((2 : Int))) (P.bind (family_Text k (x.fst, x.snd.fst)) fun (r : ByteArray) => P.bind (family_Text k (x.snd.snd.snd, x.snd.snd.fst)) fun (r_1 : ByteArray) => P.bind (law26_fixed k PUnit.unit) fun (r_2 : Bool) => P.cond r_2 (P.cond (P.seq r (ByteArray.mk #[])) (some true) (P.cond (P.seq r_1 (ByteArray.mk #[])) (some true) (P.cond (P.ieq x.fst x.snd.snd.snd) (some (P.beq (P.seq r r_1) (P.ieq x.snd.fst x.snd.snd.fst))) (some (P.beq (P.seq r r_1) false))))) (some false)) (P.cond (P.ieq ((3 : Int)) ((3 : Int))) (P.bind (family_Text k (x.fst, x.snd.fst)) fun (r : ByteArray) => P.bind (family_Text k (x.snd.snd.snd, x.snd.snd.snd)) fun (r_1 : ByteArray) => P.bind (law26_fixed k PUnit.unit) fun (r_2 : Bool) => P.cond r_2 (P.cond (P.seq r (ByteArray.mk #[])) (some true) (P.cond (P.seq r_1 (ByteArray.mk #[])) (some true) (P.cond (P.ieq x.fst x.snd.snd.snd) (some (P.beq (P.seq r r_1) (P.ieq x.snd.fst x.snd.snd.snd))) (some (P.beq (P.seq r r_1) false))))) (some false)) none)))) none)))) (P.cond (P.ieq ((1 : Int)) ((2 : Int))) (P.cond (P.ieq ((2 : Int)) ((0 : Int))) (P.cond (P.ieq ((3 : Int)) ((0 : Int))) (P.bind (family_Text k (x.fst, x.snd.snd.fst)) fun (r : ByteArray) => P.bind (family_Text k (x.fst, x.fst)) fun (r_1 : ByteArray) => P.bind (law26_fixed k PUnit.unit) fun (r_2 : Bool) => P.cond r_2 (P.cond (P.seq r (ByteArray.mk #[])) (some true) (P.cond (P.seq r_1 (ByteArray.mk #[])) (some true) (P.cond (P.ieq x.fst x.fst) (some (P.beq (P.seq r r_1) (P.ieq x.snd.snd.fst x.fst))) (some (P.beq (P.seq r r_1) false))))) (some false)) (P.cond (P.ieq ((3 : Int)) ((1 : Int))) (P.bind (family_Text k (x.fst, x.snd.snd.fst)) fun (r : ByteArray) => P.bind (family_Text k (x.fst, x.snd.fst)) fun (r_1 : ByteArray) => P.bind (law26_fixed k PUnit.unit) fun (r_2 : Bool) => P.cond r_2 (P.cond (P.seq r (ByteArray.mk #[])) (some true) (P.cond (P.seq r_1 (ByteArray.mk #[])) (some true) (P.cond (P.ieq x.fst x.fst) (some (P.beq (P.seq r r_1) (P.ieq x.snd.snd.fst x.snd.fst))) (some (P.beq (P.seq r r_1) false))))) (some false)) (P.cond (P.ieq ((3 : Int)) ((2 : Int))) (P.bind (family_Text k (x.fst, x.snd.snd.fst)) fun (r : ByteArray) => P.bind (family_Text k (x.fst, x.snd.snd.fst)) fun (r_1 : ByteArray) => P.bind (law26_fixed k PUnit.unit) fun (r_2 : Bool) => P.cond r_2 (P.cond (P.seq r (ByteArray.mk #[])) (some true) (P.cond (P.seq r_1 (ByteArray.mk #[])) (some true) (P.cond (P.ieq x.fst x.fst) (some (P.beq (P.seq r r_1) (P.ieq x.snd.snd.fst x.snd.snd.fst))) (some (P.beq (P.seq r r_1) false))))) (some false)) (P.cond (P.ieq ((3 : Int)) ((3 : Int))) (P.bind (family_Text k (x.fst, x.snd.snd.fst)) fun (r : ByteArray) => P.bind (family_Text k (x.fst, x.snd.snd.snd)) fun (r_1 : ByteArray) => P.bind (law26_fixed k PUnit.unit) fun (r_2 : Bool) => P.cond r_2 (P.cond (P.seq r (ByteArray.mk #[])) (some true) (P.cond (P.seq r_1 (ByteArray.mk #[])) (some true) (P.cond (P.ieq x.fst x.fst) (some (P.beq (P.seq r r_1) (P.ieq x.snd.snd.fst x.snd.snd.snd))) (some (P.beq (P.seq r r_1) false))))) (some false)) none)))) (P.cond (P.ieq ((2 : Int)) ((1 : Int))) (P.cond (P.ieq ((3 : Int)) ((0 : Int))) (P.bind (family_Text k (x.fst, x.snd.snd.fst)) fun (r : ByteArray) => P.bind (family_Text k (x.snd.fst, x.fst)) fun (r_1 : ByteArray) => P.bind (law26_fixed k PUnit.unit) fun (r_2 : Bool) => P.cond r_2 (P.cond (P.seq r (ByteArray.mk #[])) (some true) (P.cond (P.seq r_1 (ByteArray.mk #[])) (some true) (P.cond (P.ieq x.fst x.snd.fst) (some (P.beq (P.seq r r_1) (P.ieq x.snd.snd.fst x.fst))) (some (P.beq (P.seq r r_1) false))))) (some false)) (P.cond (P.ieq ((3 : Int)) ((1 : Int))) (P.bind (family_Text k (x.fst, x.snd.snd.fst)) fun (r : ByteArray) => P.bind (family_Text k (x.snd.fst, x.snd.fst)) fun (r_1 : ByteArray) => P.bind (law26_fixed k PUnit.unit) fun (r_2 : Bool) => P.cond r_2 (P.cond (P.seq r (ByteArray.mk #[])) (some true) (P.cond (P.seq r_1 (ByteArray.mk #[])) (some true) (P.cond (P.ieq x.fst x.snd.fst) (some (P.beq (P.seq r r_1) (P.ieq x.snd.snd.fst x.snd.fst))) (some (P.beq (P.seq r r_1) false))))) (some false)) (P.cond (P.ieq ((3 : Int)) ((2 : Int))) (P.bind (family_Text k (x.fst, x.snd.snd.fst)) fun (r : ByteArray) => P.bind (family_Text k (x.snd.fst, x.snd.snd.fst)) fun (r_1 : ByteArray) => P.bind (law26_fixed k PUnit.unit) fun (r_2 : Bool) => P.cond r_2 (P.cond (P.seq r (ByteArray.mk #[])) (some true) (P.cond (P.seq r_1 (ByteArray.mk #[])) (some true) (P.cond (P.ieq x.fst x.snd.fst) (some (P.beq (P.seq r r_1) (P.ieq x.snd.snd.fst x.snd.snd.fst))) (some (P.beq (P.seq r r_1) false))))) (some false)) (P.cond (P.ieq ((3 : Int)) ((3 : Int))) (P.bind (family_Text k (x.fst, x.snd.snd.fst)) fun (r : ByteArray) => P.bind (family_Text k (x.snd.fst, x.snd.snd.snd)) fun (r_1 : ByteArray) => P.bind (law26_fixed k PUnit.unit) fun (r_2 : Bool) => P.cond r_2 (P.cond (P.seq r (ByteArray.mk #[])) (some true) (P.cond (P.seq r_1 (ByteArray.mk #[])) (some true) (P.cond (P.ieq x.fst x.snd.fst) (some (P.beq (P.seq r r_1) (P.ieq x.snd.snd.fst x.snd.snd.snd))) (some (P.beq (P.seq r r_1) false))))) (some false)) none)))) (P.cond (P.ieq ((2 : Int)) ((2 : Int))) (P.cond (P.ieq ((3 : Int)) ((0 : Int))) (P.bind (family_Text k (x.fst, x.snd.snd.fst)) fun (r : ByteArray) => P.bind (family_Text k (x.snd.snd.fst, x.fst)) fun (r_1 : ByteArray) => P.bind (law26_fixed k PUnit.unit) fun (r_2 : Bool) => P.cond r_2 (P.cond (P.seq r (ByteArray.mk #[])) (some true) (P.cond (P.seq r_1 (ByteArray.mk #[])) (some true) (P.cond (P.ieq x.fst x.snd.snd.fst) (some (P.beq (P.seq r r_1) (P.ieq x.snd.snd.fst x.fst))) (some (P.beq (P.seq r r_1) false))))) (some false)) (P.cond (P.ieq ((3 : Int)) ((1 : Int))) (P.bind (family_Text k (x.fst, x.snd.snd.fst)) fun (r : ByteArray) => P.bind (family_Text k (x.snd.snd.fst, x.snd.fst)) fun (r_1 : ByteArray) => P.bind (law26_fixed k PUnit.unit) fun (r_2 : Bool) => P.cond r_2 (P.cond (P.seq r (ByteArray.mk #[])) (some true) (P.cond (P.seq r_1 (ByteArray.mk #[])) (some true) (P.cond (P.ieq x.fst x.snd.snd.fst) (some (P.beq (P.seq r r_1) (P.ieq x.snd.snd.fst x.snd.fst))) (some (P.beq (P.seq r r_1) false))))) (some false)) (P.cond (P.ieq ((3 : Int)) ((2 : Int))) (P.bind (family_Text k (x.fst, x.snd.snd.fst)) fun (r : ByteArray) => P.bind (family_Text k (x.snd.snd.fst, x.snd.snd.fst)) fun (r_1 : ByteArray) => P.bind (law26_fixed k PUnit.unit) fun (r_2 : Bool) => P.cond r_2 (P.cond (P.seq r (ByteArray.mk #[])) (some true) (P.cond (P.seq r_1 (ByteArray.mk #[])) (some true) (P.cond (P.ieq x.fst x.snd.snd.fst) (some (P.beq (P.seq r r_1) (P.ieq x.snd.snd.fst x.snd.snd.fst))) (some (P.beq (P.seq r r_1) false))))) (some false)) (P.cond (P.ieq ((3 : Int)) ((3 : Int))) (P.bind (family_Text k (x.fst, x.snd.snd.fst)) fun (r : ByteArray) => P.bind (family_Text k (x.snd.snd.fst, x.snd.snd.snd)) fun (r_1 : ByteArray) => P.bind (law26_fixed k PUnit.unit) fun (r_2 : Bool) => P.cond r_2 (P.cond (P.seq r (ByteArray.mk #[])) (some true) (P.cond (P.seq r_1 (ByteArray.mk #[])) (some true) (P.cond (P.ieq x.fst x.snd.snd.fst) (some (P.beq (P.seq r r_1) (P.ieq x.snd.snd.fst x.snd.snd.snd))) (some (P.beq (P.seq r r_1) false))))) (some false)) none)))) (P.cond (P.ieq ((2 : Int)) ((3 : Int))) (P.cond (P.ieq ((3 : Int)) ((0 : Int))) (P.bind (family_Text k (x.fst, x.snd.snd.fst)) fun (r : ByteArray) => P.bind (family_Text k (x.snd.snd.snd, x.fst)) fun (r_1 : ByteArray) => P.bind (law26_fixed k PUnit.unit) fun (r_2 : Bool) => P.cond r_2 (P.cond (P.seq r (ByteArray.mk #[])) (some true) (P.cond (P.seq r_1 (ByteArray.mk #[])) (some true) (P.cond (P.ieq x.fst x.snd.snd.snd) (some (P.beq (P.seq r r_1) (P.ieq x.snd.snd.fst x.fst))) (some (P.beq (P.seq r r_1) false))))) (some false)) (P.cond (P.ieq ((3 : Int)) ((1 : Int))) (P.bind (family_Text k (x.fst, x.snd.snd.fst)) fun (r : ByteArray) => P.bind (family_Text k (x.snd.snd.snd, x.snd.fst)) fun (r_1 : ByteArray) => P.bind (law26_fixed k PUnit.unit) fun (r_2 : Bool) => P.cond r_2 (P.cond (P.seq r (ByteArray.mk #[])) (some true) (P.cond (P.seq r_1 (ByteArray.mk #[])) (some true) (P.cond (P.ieq x.fst x.snd.snd.snd) (some (P.beq (P.seq r r_1) (P.ieq x.snd.snd.fst x.snd.fst))) (some (P.beq (P.seq r r_1) false))))) (some false)) (P.cond (P.ieq ((3 : Int)) ((2 : Int))) (P.bind (family_Text k (x.fst, x.snd.snd.fst)) fun (r : ByteArray) => P.bind (family_Text k (x.snd.snd.snd, x.snd.snd.fst)) fun (r_1 : ByteArray) => P.bind (law26_fixed k PUnit.unit) fun (r_2 : Bool) => P.cond r_2 (P.cond (P.seq r (ByteArray.mk #[])) (some true) (P.cond (P.seq r_1 (ByteArray.mk #[])) (some true) (P.cond (P.ieq x.fst x.snd.snd.snd) (some (P.beq (P.seq r r_1) (P.ieq x.snd.snd.fst x.snd.snd.fst))) (some (P.beq (P.seq r r_1) false))))) (some false)) (P.cond (P.ieq ((3 : Int)) ((3 : Int))) (P.bind (family_Text k (x.fst, x.snd.snd.fst)) fun (r : ByteArray) => P.bind (family_Text k (x.snd.snd.snd, x.snd.snd.snd)) fun (r_1 : ByteArray) => P.bind (law26_fixed k PUnit.unit) fun (r_2 : Bool) => P.cond r_2 (P.cond (P.seq r (ByteArray.mk #[])) (some true) (P.cond (P.seq r_1 (ByteArray.mk #[])) (some true) (P.cond (P.ieq x.fst x.snd.snd.snd) (some (P.beq (P.seq r r_1) (P.ieq x.snd.snd.fst x.snd.snd.snd))) (some (P.beq (P.seq r r_1) false))))) (some false)) none)))) none)))) (P.cond (P.ieq ((1 : Int)) ((3 : Int))) (P.cond (P.ieq ((2 : Int)) ((0 : Int))) (P.cond (P.ieq ((3 : Int)) ((0 : Int))) (P.bind (family_Text k (x.fst, x.snd.snd.snd)) fun (r : ByteArray) => P.bind (family_Text k (x.fst, x.fst)) fun (r_1 : ByteArray) => P.bind (law26_fixed k PUnit.unit) fun (r_2 : Bool) => P.cond r_2 (P.cond (P.seq r (ByteArray.mk #[])) (some true) (P.cond (P.seq r_1 (ByteArray.mk #[])) (some true) (P.cond (P.ieq x.fst x.fst) (some (P.beq (P.seq r r_1) (P.ieq x.snd.snd.snd x.fst))) (some (P.beq (P.seq r r_1) false))))) (some false)) (P.cond (P.ieq ((3 : Int)) ((1 : Int))) (P.bind (family_Text k (x.fst, x.snd.snd.snd)) fun (r : ByteArray) => P.bind (family_Text k (x.fst, x.snd.fst)) fun (r_1 : ByteArray) => P.bind (law26_fixed k PUnit.unit) fun (r_2 : Bool) => P.cond r_2 (P.cond (P.seq r (ByteArray.mk #[])) (some true) (P.cond (P.seq r_1 (ByteArray.mk #[])) (some true) (P.cond (P.ieq x.fst x.fst) (some (P.beq (P.seq r r_1) (P.ieq x.snd.snd.snd x.snd.fst))) (some (P.beq (P.seq r r_1) false))))) (some false)) (P.cond (P.ieq ((3 : Int)) ((2 : Int))) (P.bind (family_Text k (x.fst, x.snd.snd.snd)) fun (r : ByteArray) => P.bind (family_Text k (x.fst, x.snd.snd.fst)) fun (r_1 : ByteArray) => P.bind (law26_fixed k PUnit.unit) fun (r_2 : Bool) => P.cond r_2 (P.cond (P.seq r (ByteArray.mk #[])) (some true) (P.cond (P.seq r_1 (ByteArray.mk #[])) (some true) (P.cond (P.ieq x.fst x.fst) (some (P.beq (P.seq r r_1) (P.ieq x.snd.snd.snd x.snd.snd.fst))) (some (P.beq (P.seq r r_1) false))))) (some false)) (P.cond (P.ieq ((3 : Int)) ((3 : Int))) (P.bind (family_Text k (x.fst, x.snd.snd.snd)) fun (r : ByteArray) => P.bind (family_Text k (x.fst, x.snd.snd.snd)) fun (r_1 : ByteArray) => P.bind (law26_fixed k PUnit.unit) fun (r_2 : Bool) => P.cond r_2 (P.cond (P.seq r (ByteArray.mk #[])) (some true) (P.cond (P.seq r_1 (ByteArray.mk #[])) (some true) (P.cond (P.ieq x.fst x.fst) (some (P.beq (P.seq r r_1) (P.ieq x.snd.snd.snd x.snd.snd.snd))) (some (P.beq (P.seq r r_1) false))))) (some false)) none)))) (P.cond (P.ieq ((2 : Int)) ((1 : Int))) (P.cond (P.ieq ((3 : Int)) ((0 : Int))) (P.bind (family_Text k (x.fst, x.snd.snd.snd)) fun (r : ByteArray) => P.bind (family_Text k (x.snd.fst, x.fst)) fun (r_1 : ByteArray) => P.bind (law26_fixed k PUnit.unit) fun (r_2 : Bool) => P.cond r_2 (P.cond (P.seq r (ByteArray.mk #[])) (some true) (P.cond (P.seq r_1 (ByteArray.mk #[])) (some true) (P.cond (P.ieq x.fst x.snd.fst) (some (P.beq (P.seq r r_1) (P.ieq x.snd.snd.snd x.fst))) (some (P.beq (P.seq r r_1) false))))) (some false)) (P.cond (P.ieq ((3 : Int)) ((1 : Int))) (P.bind (family_Text k (x.fst, x.snd.snd.snd)) fun (r : ByteArray) => P.bind (family_Text k (x.snd.fst, x.snd.fst)) fun (r_1 : ByteArray) => P.bind (law26_fixed k PUnit.unit) fun (r_2 : Bool) => P.cond r_2 (P.cond (P.seq r (ByteArray.mk #[])) (some true) (P.cond (P.seq r_1 (ByteArray.mk #[])) (some true) (P.cond (P.ieq x.fst x.snd.fst) (some (P.beq (P.seq r r_1) (P.ieq x.snd.snd.snd x.snd.fst))) (some (P.beq (P.seq r r_1) false))))) (some false)) (P.cond (P.ieq ((3 : Int)) ((2 : Int))) (P.bind (family_Text k (x.fst, x.snd.snd.snd)) fun (r : ByteArray) => P.bind (family_Text k (x.snd.fst, x.snd.snd.fst)) fun (r_1 : ByteArray) => P.bind (law26_fixed k PUnit.unit) fun (r_2 : Bool) => P.cond r_2 (P.cond (P.seq r (ByteArray.mk #[])) (some true) (P.cond (P.seq r_1 (ByteArray.mk #[])) (some true) (P.cond (P.ieq x.fst x.snd.fst) (some (P.beq (P.seq r r_1) (P.ieq x.snd.snd.snd x.snd.snd.fst))) (some (P.beq (P.seq r r_1) false))))) (some false)) (P.cond (P.ieq ((3 : Int)) ((3 : Int))) (P.bind (family_Text k (x.fst, x.snd.snd.snd)) fun (r : ByteArray) => P.bind (family_Text k (x.snd.fst, x.snd.snd.snd)) fun (r_1 : ByteArray) => P.bind (law26_fixed k PUnit.unit) fun (r_2 : Bool) => P.cond r_2 (P.cond (P.seq r (ByteArray.mk #[])) (some true) (P.cond (P.seq r_1 (ByteArray.mk #[])) (some true) (P.cond (P.ieq x.fst x.snd.fst) (some (P.beq (P.seq r r_1) (P.ieq x.snd.snd.snd x.snd.snd.snd))) (some (P.beq (P.seq r r_1) false))))) (some false)) none)))) (P.cond (P.ieq ((2 : Int)) ((2 : Int))) (P.cond (P.ieq ((3 : Int)) ((0 : Int))) (P.bind (family_Text k (x.fst, x.snd.snd.snd)) fun (r : ByteArray) => P.bind (family_Text k (x.snd.snd.fst, x.fst)) fun (r_1 : ByteArray) => P.bind (law26_fixed k PUnit.unit) fun (r_2 : Bool) => P.cond r_2 (P.cond (P.seq r (ByteArray.mk #[])) (some true) (P.cond (P.seq r_1 (ByteArray.mk #[])) (some true) (P.cond (P.ieq x.fst x.snd.snd.fst) (some (P.beq (P.seq r r_1) (P.ieq x.snd.snd.snd x.fst))) (some (P.beq (P.seq r r_1) false))))) (some false)) (P.cond (P.ieq ((3 : Int)) ((1 : Int))) (P.bind (family_Text k (x.fst, x.snd.snd.snd)) fun (r : ByteArray) => P.bind (family_Text k (x.snd.snd.fst, x.snd.fst)) fun (r_1 : ByteArray) => P.bind (law26_fixed k PUnit.unit) fun (r_2 : Bool) => P.cond r_2 (P.cond (P.seq r (ByteArray.mk #[])) (some true) (P.cond (P.seq r_1 (ByteArray.mk #[])) (some true) (P.cond (P.ieq x.fst x.snd.snd.fst) (some (P.beq (P.seq r r_1) (P.ieq x.snd.snd.snd x.snd.fst))) (some (P.beq (P.seq r r_1) false))))) (some false)) (P.cond (P.ieq ((3 : Int)) ((2 : Int))) (P.bind (family_Text k (x.fst, x.snd.snd.snd)) fun (r : ByteArray) => P.bind (family_Text k (x.snd.snd.fst, x.snd.snd.fst)) fun (r_1 : ByteArray) => P.bind (law26_fixed k PUnit.unit) fun (r_2 : Bool) => P.cond r_2 (P.cond (P.seq r (ByteArray.mk #[])) (some true) (P.cond (P.seq r_1 (ByteArray.mk #[])) (some true) (P.cond (P.ieq x.fst x.snd.snd.fst) (some (P.beq (P.seq r r_1) (P.ieq x.snd.snd.snd x.snd.snd.fst))) (some (P.beq (P.seq r r_1) false))))) (some false)) (P.cond (P.ieq ((3 : Int)) ((3 : Int))) (P.bind (family_Text k (x.fst, x.snd.snd.snd)) fun (r : ByteArray) => P.bind (family_Text k (x.snd.snd.fst, x.snd.snd.snd)) fun (r_1 : ByteArray) => P.bind (law26_fixed k PUnit.unit) fun (r_2 : Bool) => P.cond r_2 (P.cond (P.seq r (ByteArray.mk #[])) (some true) (P.cond (P.seq r_1 (ByteArray.mk #[])) (some true) (P.cond (P.ieq x.fst x.snd.snd.fst) (some (P.beq (P.seq r r_1) (P.ieq x.snd.snd.snd x.snd.snd.snd))) (some (P.beq (P.seq r r_1) false))))) (some false)) none)))) (P.cond (P.ieq ((2 : Int)) ((3 : Int))) (P.cond (P.ieq ((3 : Int)) ((0 : Int))) (P.bind (family_Text k (x.fst, x.snd.snd.snd)) fun (r : ByteArray) => P.bind (family_Text k (x.snd.snd.snd, x.fst)) fun (r_1 : ByteArray) => P.bind (law26_fixed k PUnit.unit) fun (r_2 : Bool) => P.cond r_2 (P.cond (P.seq r (ByteArray.mk #[])) (some true) (P.cond (P.seq r_1 (ByteArray.mk #[])) (some true) (P.cond (P.ieq x.fst x.snd.snd.snd) (some (P.beq (P.seq r r_1) (P.ieq x.snd.snd.snd x.fst))) (some (P.beq (P.seq r r_1) false))))) (some false)) (P.cond (P.ieq ((3 : Int)) ((1 : Int))) (P.bind (family_Text k (x.fst, x.snd.snd.snd)) fun (r : ByteArray) => P.bind (family_Text k (x.snd.snd.snd, x.snd.fst)) fun (r_1 : ByteArray) => P.bind (law26_fixed k PUnit.unit) fun (r_2 : Bool) => P.cond r_2 (P.cond (P.seq r (ByteArray.mk #[])) (some true) (P.cond (P.seq r_1 (ByteArray.mk #[])) (some true) (P.cond (P.ieq x.fst x.snd.snd.snd) (some (P.beq (P.seq r r_1) (P.ieq x.snd.snd.snd x.snd.fst))) (some (P.beq (P.seq r r_1) false))))) (some false)) (P.cond (P.ieq ((3 : Int)) ((2 : Int))) (P.bind (family_Text k (x.fst, x.snd.snd.snd)) fun (r : ByteArray) => P.bind (family_Text k (x.snd.snd.snd, x.snd.snd.fst)) fun (r_1 : ByteArray) => P.bind (law26_fixed k PUnit.unit) fun (r_2 : Bool) => P.cond r_2 (P.cond (P.seq r (ByteArray.mk #[])) (some true) (P.cond (P.seq r_1 (ByteArray.mk #[])) (some true) (P.cond (P.ieq x.fst x.snd.snd.snd) (some (P.beq (P.seq r r_1) (P.ieq x.snd.snd.snd x.snd.snd.fst))) (some (P.beq (P.seq r r_1) false))))) (some false)) (P.cond (P.ieq ((3 : Int)) ((3 : Int))) (P.bind (family_Text k (x.fst, x.snd.snd.snd)) fun (r : ByteArray) => P.bind (family_Text k (x.snd.snd.snd, x.snd.snd.snd)) fun (r_1 : ByteArray) => P.bind (law26_fixed k PUnit.unit) fun (r_2 : Bool) => P.cond r_2 (P.cond (P.seq r (ByteArray.mk #[])) (some true) (P.cond (P.seq r_1 (ByteArray.mk #[])) (some true) (P.cond (P.ieq x.fst x.snd.snd.snd) (some (P.beq (P.seq r r_1) (P.ieq x.snd.snd.snd x.snd.snd.snd))) (some (P.beq (P.seq r r_1) false))))) (some false)) none)))) none)))) none))))
    (P.cond (P.ieq ((0 : Int)) ((1 : Int))) (P.cond (P.ieq ((1 : Int)) ((0 : Int))) (P.cond (P.ieq ((2 : Int)) ((0 : Int))) (P.cond (P.ieq ((3 : Int)) ((0 : Int))) (P.bind (family_Text k (x.snd.fst, x.fst)) fun (r : ByteArray) => P.bind (family_Text k (x.fst, x.fst)) fun (r_1 : ByteArray) => P.bind (law26_fixed k PUnit.unit) fun (r_2 : Bool) => P.cond r_2 (P.cond (P.seq r (ByteArray.mk #[])) (some true) (P.cond (P.seq r_1 (ByteArray.mk #[])) (some true) (P.cond (P.ieq x.snd.fst x.fst) (some (P.beq (P.seq r r_1) (P.ieq x.fst x.fst))) (some (P.beq (P.seq r r_1) false))))) (some false)) (P.cond (P.ieq ((3 : Int)) ((1 : Int))) (P.bind (family_Text k (x.snd.fst, x.fst)) fun (r : ByteArray) => P.bind (family_Text k (x.fst, x.snd.fst)) fun (r_1 : ByteArray) => P.bind (law26_fixed k PUnit.unit) fun (r_2 : Bool) => P.cond r_2 (P.cond (P.seq r (ByteArray.mk #[])) (some true) (P.cond (P.seq r_1 (ByteArray.mk #[])) (some true) (P.cond (P.ieq x.snd.fst x.fst) (some (P.beq (P.seq r r_1) (P.ieq x.fst x.snd.fst))) (some (P.beq (P.seq r r_1) false))))) (some false)) (P.cond (P.ieq ((3 : Int)) ((2 : Int))) (P.bind (family_Text k (x.snd.fst, x.fst)) fun (r : ByteArray) => P.bind (family_Text k (x.fst, x.snd.snd.fst)) fun (r_1 : ByteArray) => P.bind (law26_fixed k PUnit.unit) fun (r_2 : Bool) => P.cond r_2 (P.cond (P.seq r (ByteArray.mk #[])) (some true) (P.cond (P.seq r_1 (ByteArray.mk #[])) (some true) (P.cond (P.ieq x.snd.fst x.fst) (some (P.beq (P.seq r r_1) (P.ieq x.fst x.snd.snd.fst))) (some (P.beq (P.seq r r_1) false))))) (some false)) (P.cond (P.ieq ((3 : Int)) ((3 : Int))) (P.bind (family_Text k (x.snd.fst, x.fst)) fun (r : ByteArray) => P.bind (family_Text k (x.fst, x.snd.snd.snd)) fun (r_1 : ByteArray) => P.bind (law26_fixed k PUnit.unit) fun (r_2 : Bool) => P.cond r_2 (P.cond (P.seq r (ByteArray.mk #[])) (some true) (P.cond (P.seq r_1 (ByteArray.mk #[])) (some true) (P.cond (P.ieq x.snd.fst x.fst) (some (P.beq (P.seq r r_1) (P.ieq x.fst x.snd.snd.snd))) (some (P.beq (P.seq r r_1) false))))) (some false)) none)))) (P.cond (P.ieq ((2 : Int)) ((1 : Int))) (P.cond (P.ieq ((3 : Int)) ((0 : Int))) (P.bind (family_Text k (x.snd.fst, x.fst)) fun (r : ByteArray) => P.bind (family_Text k (x.snd.fst, x.fst)) fun (r_1 : ByteArray) => P.bind (law26_fixed k PUnit.unit) fun (r_2 : Bool) => P.cond r_2 (P.cond (P.seq r (ByteArray.mk #[])) (some true) (P.cond (P.seq r_1 (ByteArray.mk #[])) (some true) (P.cond (P.ieq x.snd.fst x.snd.fst) (some (P.beq (P.seq r r_1) (P.ieq x.fst x.fst))) (some (P.beq (P.seq r r_1) false))))) (some false)) (P.cond (P.ieq ((3 : Int)) ((1 : Int))) (P.bind (family_Text k (x.snd.fst, x.fst)) fun (r : ByteArray) => P.bind (family_Text k (x.snd.fst, x.snd.fst)) fun (r_1 : ByteArray) => P.bind (law26_fixed k PUnit.unit) fun (r_2 : Bool) => P.cond r_2 (P.cond (P.seq r (ByteArray.mk #[])) (some true) (P.cond (P.seq r_1 (ByteArray.mk #[])) (some true) (P.cond (P.ieq x.snd.fst x.snd.fst) (some (P.beq (P.seq r r_1) (P.ieq x.fst x.snd.fst))) (some (P.beq (P.seq r r_1) false))))) (some false)) (P.cond (P.ieq ((3 : Int)) ((2 : Int))) (P.bind (family_Text k (x.snd.fst, x.fst)) fun (r : ByteArray) => P.bind (family_Text k (x.snd.fst, x.snd.snd.fst)) fun (r_1 : ByteArray) => P.bind (law26_fixed k PUnit.unit) fun (r_2 : Bool) => P.cond r_2 (P.cond (P.seq r (ByteArray.mk #[])) (some true) (P.cond (P.seq r_1 (ByteArray.mk #[])) (some true) (P.cond (P.ieq x.snd.fst x.snd.fst) (some (P.beq (P.seq r r_1) (P.ieq x.fst x.snd.snd.fst))) (some (P.beq (P.seq r r_1) false))))) (some false)) (P.cond (P.ieq ((3 : Int)) ((3 : Int))) (P.bind (family_Text k (x.snd.fst, x.fst)) fun (r : ByteArray) => P.bind (family_Text k (x.snd.fst, x.snd.snd.snd)) fun (r_1 : ByteArray) => P.bind (law26_fixed k PUnit.unit) fun (r_2 : Bool) => P.cond r_2 (P.cond (P.seq r (ByteArray.mk #[])) (some true) (P.cond (P.seq r_1 (ByteArray.mk #[])) (some true) (P.cond (P.ieq x.snd.fst x.snd.fst) (some (P.beq (P.seq r r_1) (P.ieq x.fst x.snd.snd.snd))) (some (P.beq (P.seq r r_1) false))))) (some false)) none)))) (P.cond (P.ieq ((2 : Int)) ((2 : Int))) (P.cond (P.ieq ((3 : Int)) ((0 : Int))) (P.bind (family_Text k (x.snd.fst, x.fst)) fun (r : ByteArray) => P.bind (family_Text k (x.snd.snd.fst, x.fst)) fun (r_1 : ByteArray) => P.bind (law26_fixed k PUnit.unit) fun (r_2 : Bool) => P.cond r_2 (P.cond (P.seq r (ByteArray.mk #[])) (some true) (P.cond (P.seq r_1 (ByteArray.mk #[])) (some true) (P.cond (P.ieq x.snd.fst x.snd.snd.fst) (some (P.beq (P.seq r r_1) (P.ieq x.fst x.fst))) (some (P.beq (P.seq r r_1) false))))) (some false)) (P.cond (P.ieq ((3 : Int)) ((1 : Int))) (P.bind (family_Text k (x.snd.fst, x.fst)) fun (r : ByteArray) => P.bind (family_Text k (x.snd.snd.fst, x.snd.fst)) fun (r_1 : ByteArray) => P.bind (law26_fixed k PUnit.unit) fun (r_2 : Bool) => P.cond r_2 (P.cond (P.seq r (ByteArray.mk #[])) (some true) (P.cond (P.seq r_1 (ByteArray.mk #[])) (some true) (P.cond (P.ieq x.snd.fst x.snd.snd.fst) (some (P.beq (P.seq r r_1) (P.ieq x.fst x.snd.fst))) (some (P.beq (P.seq r r_1) false))))) (some false)) (P.cond (P.ieq ((3 : Int)) ((2 : Int))) (P.bind (family_Text k (x.snd.fst, x.fst)) fun (r : ByteArray) => P.bind (family_Text k (x.snd.snd.fst, x.snd.snd.fst)) fun (r_1 : ByteArray) => P.bind (law26_fixed k PUnit.unit) fun (r_2 : Bool) => P.cond r_2 (P.cond (P.seq r (ByteArray.mk #[])) (some true) (P.cond (P.seq r_1 (ByteArray.mk #[])) (some true) (P.cond (P.ieq x.snd.fst x.snd.snd.fst) (some (P.beq (P.seq r r_1) (P.ieq x.fst x.snd.snd.fst))) (some (P.beq (P.seq r r_1) false))))) (some false)) (P.cond (P.ieq ((3 : Int)) ((3 : Int))) (P.bind (family_Text k (x.snd.fst, x.fst)) fun (r : ByteArray) => P.bind (family_Text k (x.snd.snd.fst, x.snd.snd.snd)) fun (r_1 : ByteArray) => P.bind (law26_fixed k PUnit.unit) fun (r_2 : Bool) => P.cond r_2 (P.cond (P.seq r (ByteArray.mk #[])) (some true) (P.cond (P.seq r_1 (ByteArray.mk #[])) (some true) (P.cond (P.ieq x.snd.fst x.snd.snd.fst) (some (P.beq (P.seq r r_1) (P.ieq x.fst x.snd.snd.snd))) (some (P.beq (P.seq r r_1) false))))) (some false)) none)))) (P.cond (P.ieq ((2 : Int)) ((3 : Int))) (P.cond (P.ieq ((3 : Int)) ((0 : Int))) (P.bind (family_Text k (x.snd.fst, x.fst)) fun (r : ByteArray) => P.bind (family_Text k (x.snd.snd.snd, x.fst)) fun (r_1 : ByteArray) => P.bind (law26_fixed k PUnit.unit) fun (r_2 : Bool) => P.cond r_2 (P.cond (P.seq r (ByteArray.mk #[])) (some true) (P.cond (P.seq r_1 (ByteArray.mk #[])) (some true) (P.cond (P.ieq x.snd.fst x.snd.snd.snd) (some (P.beq (P.seq r r_1) (P.ieq x.fst x.fst))) (some (P.beq (P.seq r r_1) false))))) (some false)) (P.cond (P.ieq ((3 : Int)) ((1 : Int))) (P.bind (family_Text k (x.snd.fst, x.fst)) fun (r : ByteArray) => P.bind (family_Text k (x.snd.snd.snd, x.snd.fst)) fun (r_1 : ByteArray) => P.bind (law26_fixed k PUnit.unit) fun (r_2 : Bool) => P.cond r_2 (P.cond (P.seq r (ByteArray.mk #[])) (some true) (P.cond (P.seq r_1 (ByteArray.mk #[])) (some true) (P.cond (P.ieq x.snd.fst x.snd.snd.snd) (some (P.beq (P.seq r r_1) (P.ieq x.fst x.snd.fst))) (some (P.beq (P.seq r r_1) false))))) (some false)) (P.cond (P.ieq ((3 : Int)) ((2 : Int))) (P.bind (family_Text k (x.snd.fst, x.fst)) fun (r : ByteArray) => P.bind (family_Text k (x.snd.snd.snd, x.snd.snd.fst)) fun (r_1 : ByteArray) => P.bind (law26_fixed k PUnit.unit) fun (r_2 : Bool) => P.cond r_2 (P.cond (P.seq r (ByteArray.mk #[])) (some true) (P.cond (P.seq r_1 (ByteArray.mk #[])) (some true) (P.cond (P.ieq x.snd.fst x.snd.snd.snd) (some (P.beq (P.seq r r_1) (P.ieq x.fst x.snd.snd.fst))) (some (P.beq (P.seq r r_1) false))))) (some false)) (P.cond (P.ieq ((3 : Int)) ((3 : Int))) (P.bind (family_Text k (x.snd.fst, x.fst)) fun (r : ByteArray) => P.bind (family_Text k (x.snd.snd.snd, x.snd.snd.snd)) fun (r_1 : ByteArray) => P.bind (law26_fixed k PUnit.unit) fun (r_2 : Bool) => P.cond r_2 (P.cond (P.seq r (ByteArray.mk #[])) (some true) (P.cond (P.seq r_1 (ByteArray.mk #[])) (some true) (P.cond (P.ieq x.snd.fst x.snd.snd.snd) (some (P.beq (P.seq r r_1) (P.ieq x.fst x.snd.snd.snd))) (some (P.beq (P.seq r r_1) false))))) (some false)) none)))) none)))) (P.cond (P.ieq ((1 : Int)) ((1 : Int))) (P.cond (P.ieq ((2 : Int)) ((0 : Int))) (P.cond (P.ieq ((3 : Int)) ((0 : Int))) (P.bind (family_Text k (x.snd.fst, x.snd.fst)) fun (r : ByteArray) => P.bind (family_Text k (x.fst, x.fst)) fun (r_1 : ByteArray) => P.bind (law26_fixed k PUnit.unit) fun (r_2 : Bool) => P.cond r_2 (P.cond (P.seq r (ByteArray.mk #[])) (some true) (P.cond (P.seq r_1 (ByteArray.mk #[])) (some true) (P.cond (P.ieq x.snd.fst x.fst) (some (P.beq (P.seq r r_1) (P.ieq x.snd.fst x.fst))) (some (P.beq (P.seq r r_1) false))))) (some false)) (P.cond (P.ieq ((3 : Int)) ((1 : Int))) (P.bind (family_Text k (x.snd.fst, x.snd.fst)) fun (r : ByteArray) => P.bind (family_Text k (x.fst, x.snd.fst)) fun (r_1 : ByteArray) => P.bind (law26_fixed k PUnit.unit) fun (r_2 : Bool) => P.cond r_2 (P.cond (P.seq r (ByteArray.mk #[])) (some true) (P.cond (P.seq r_1 (ByteArray.mk #[])) (some true) (P.cond (P.ieq x.snd.fst x.fst) (some (P.beq (P.seq r r_1) (P.ieq x.snd.fst x.snd.fst))) (some (P.beq (P.seq r r_1) false))))) (some false)) (P.cond (P.ieq ((3 : Int)) ((2 : Int))) (P.bind (family_Text k (x.snd.fst, x.snd.fst)) fun (r : ByteArray) => P.bind (family_Text k (x.fst, x.snd.snd.fst)) fun (r_1 : ByteArray) => P.bind (law26_fixed k PUnit.unit) fun (r_2 : Bool) => P.cond r_2 (P.cond (P.seq r (ByteArray.mk #[])) (some true) (P.cond (P.seq r_1 (ByteArray.mk #[])) (some true) (P.cond (P.ieq x.snd.fst x.fst) (some (P.beq (P.seq r r_1) (P.ieq x.snd.fst x.snd.snd.fst))) (some (P.beq (P.seq r r_1) false))))) (some false)) (P.cond (P.ieq ((3 : Int)) ((3 : Int))) (P.bind (family_Text k (x.snd.fst, x.snd.fst)) fun (r : ByteArray) => P.bind (family_Text k (x.fst, x.snd.snd.snd)) fun (r_1 : ByteArray) => P.bind (law26_fixed k PUnit.unit) fun (r_2 : Bool) => P.cond r_2 (P.cond (P.seq r (ByteArray.mk #[])) (some true) (P.cond (P.seq r_1 (ByteArray.mk #[])) (some true) (P.cond (P.ieq x.snd.fst x.fst) (some (P.beq (P.seq r r_1) (P.ieq x.snd.fst x.snd.snd.snd))) (some (P.beq (P.seq r r_1) false))))) (some false)) none)))) (P.cond (P.ieq ((2 : Int)) ((1 : Int))) (P.cond (P.ieq ((3 : Int)) ((0 : Int))) (P.bind (family_Text k (x.snd.fst, x.snd.fst)) fun (r : ByteArray) => P.bind (family_Text k (x.snd.fst, x.fst)) fun (r_1 : ByteArray) => P.bind (law26_fixed k PUnit.unit) fun (r_2 : Bool) => P.cond r_2 (P.cond (P.seq r (ByteArray.mk #[])) (some true) (P.cond (P.seq r_1 (ByteArray.mk #[])) (some true) (P.cond (P.ieq x.snd.fst x.snd.fst) (some (P.beq (P.seq r r_1) (P.ieq x.snd.fst x.fst))) (some (P.beq (P.seq r r_1) false))))) (some false)) (P.cond (P.ieq ((3 : Int)) ((1 : Int))) (P.bind (family_Text k (x.snd.fst, x.snd.fst)) fun (r : ByteArray) => P.bind (family_Text k (x.snd.fst, x.snd.fst)) fun (r_1 : ByteArray) => P.bind (law26_fixed k PUnit.unit) fun (r_2 : Bool) => P.cond r_2 (P.cond (P.seq r (ByteArray.mk #[])) (some true) (P.cond (P.seq r_1 (ByteArray.mk #[])) (some true) (P.cond (P.ieq x.snd.fst x.snd.fst) (some (P.beq (P.seq r r_1) (P.ieq x.snd.fst x.snd.fst))) (some (P.beq (P.seq r r_1) false))))) (some false)) (P.cond (P.ieq ((3 : Int)) ((2 : Int))) (P.bind (family_Text k (x.snd.fst, x.snd.fst)) fun (r : ByteArray) => P.bind (family_Text k (x.snd.fst, x.snd.snd.fst)) fun (r_1 : ByteArray) => P.bind (law26_fixed k PUnit.unit) fun (r_2 : Bool) => P.cond r_2 (P.cond (P.seq r (ByteArray.mk #[])) (some true) (P.cond (P.seq r_1 (ByteArray.mk #[])) (some true) (P.cond (P.ieq x.snd.fst x.snd.fst) (some (P.beq (P.seq r r_1) (P.ieq x.snd.fst x.snd.snd.fst))) (some (P.beq (P.seq r r_1) false))))) (some false)) (P.cond (P.ieq ((3 : Int)) ((3 : Int))) (P.bind (family_Text k (x.snd.fst, x.snd.fst)) fun (r : ByteArray) => P.bind (family_Text k (x.snd.fst, x.snd.snd.snd)) fun (r_1 : ByteArray) => P.bind (law26_fixed k PUnit.unit) fun (r_2 : Bool) => P.cond r_2 (P.cond (P.seq r (ByteArray.mk #[])) (some true) (P.cond (P.seq r_1 (ByteArray.mk #[])) (some true) (P.cond (P.ieq x.snd.fst x.snd.fst) (some (P.beq (P.seq r r_1) (P.ieq x.snd.fst x.snd.snd.snd))) (some (P.beq (P.seq r r_1) false))))) (some false)) none)))) (P.cond (P.ieq ((2 : Int)) ((2 : Int))) (P.cond (P.ieq ((3 : Int)) ((0 : Int))) (P.bind (family_Text k (x.snd.fst, x.snd.fst)) fun (r : ByteArray) => P.bind (family_Text k (x.snd.snd.fst, x.fst)) fun (r_1 : ByteArray) => P.bind (law26_fixed k PUnit.unit) fun (r_2 : Bool) => P.cond r_2 (P.cond (P.seq r (ByteArray.mk #[])) (some true) (P.cond (P.seq r_1 (ByteArray.mk #[])) (some true) (P.cond (P.ieq x.snd.fst x.snd.snd.fst) (some (P.beq (P.seq r r_1) (P.ieq x.snd.fst x.fst))) (some (P.beq (P.seq r r_1) false))))) (some false)) (P.cond (P.ieq ((3 : Int)) ((1 : Int))) (P.bind (family_Text k (x.snd.fst, x.snd.fst)) fun (r : ByteArray) => P.bind (family_Text k (x.snd.snd.fst, x.snd.fst)) fun (r_1 : ByteArray) => P.bind (law26_fixed k PUnit.unit) fun (r_2 : Bool) => P.cond r_2 (P.cond (P.seq r (ByteArray.mk #[])) (some true) (P.cond (P.seq r_1 (ByteArray.mk #[])) (some true) (P.cond (P.ieq x.snd.fst x.snd.snd.fst) (some (P.beq (P.seq r r_1) (P.ieq x.snd.fst x.snd.fst))) (some (P.beq (P.seq r r_1) false))))) (some false)) (P.cond (P.ieq ((3 : Int)) ((2 : Int))) (P.bind (family_Text k (x.snd.fst, x.snd.fst)) fun (r : ByteArray) => P.bind (family_Text k (x.snd.snd.fst, x.snd.snd.fst)) fun (r_1 : ByteArray) => P.bind (law26_fixed k PUnit.unit) fun (r_2 : Bool) => P.cond r_2 (P.cond (P.seq r (ByteArray.mk #[])) (some true) (P.cond (P.seq r_1 (ByteArray.mk #[])) (some true) (P.cond (P.ieq x.snd.fst x.snd.snd.fst) (some (P.beq (P.seq r r_1) (P.ieq x.snd.fst x.snd.snd.fst))) (some (P.beq (P.seq r r_1) false))))) (some false)) (P.cond (P.ieq ((3 : Int)) ((3 : Int))) (P.bind (family_Text k (x.snd.fst, x.snd.fst)) fun (r : ByteArray) => P.bind (family_Text k (x.snd.snd.fst, x.snd.snd.snd)) fun (r_1 : ByteArray) => P.bind (law26_fixed k PUnit.unit) fun (r_2 : Bool) => P.cond r_2 (P.cond (P.seq r (ByteArray.mk #[])) (some true) (P.cond (P.seq r_1 (ByteArray.mk #[])) (some true) (P.cond (P.ieq x.snd.fst x.snd.snd.fst) (some (P.beq (P.seq r r_1) (P.ieq x.snd.fst x.snd.snd.snd))) (some (P.beq (P.seq r r_1) false))))) (some false)) none)))) (P.cond (P.ieq ((2 : Int)) ((3 : Int))) (P.cond (P.ieq ((3 : Int)) ((0 : Int))) (P.bind (family_Text k (x.snd.fst, x.snd.fst)) fun (r : ByteArray) => P.bind (family_Text k (x.snd.snd.snd, x.fst)) fun (r_1 : ByteArray) => P.bind (law26_fixed k PUnit.unit) fun (r_2 : Bool) => P.cond r_2 (P.cond (P.seq r (ByteArray.mk #[])) (some true) (P.cond (P.seq r_1 (ByteArray.mk #[])) (some true) (P.cond (P.ieq x.snd.fst x.snd.snd.snd) (some (P.beq (P.seq r r_1) (P.ieq x.snd.fst x.fst))) (some (P.beq (P.seq r r_1) false))))) (some false)) (P.cond (P.ieq ((3 : Int)) ((1 : Int))) (P.bind (family_Text k (x.snd.fst, x.snd.fst)) fun (r : ByteArray) => P.bind (family_Text k (x.snd.snd.snd, x.snd.fst)) fun (r_1 : ByteArray) => P.bind (law26_fixed k PUnit.unit) fun (r_2 : Bool) => P.cond r_2 (P.cond (P.seq r (ByteArray.mk #[])) (some true) (P.cond (P.seq r_1 (ByteArray.mk #[])) (some true) (P.cond (P.ieq x.snd.fst x.snd.snd.snd) (some (P.beq (P.seq r r_1) (P.ieq x.snd.fst x.snd.fst))) (some (P.beq (P.seq r r_1) false))))) (some false)) (P.cond (P.ieq ((3 : Int)) ((2 : Int))) (P.bind (family_Text k (x.snd.fst, x.snd.fst)) fun (r : ByteArray) => P.bind (family_Text k (x.snd.snd.snd, x.snd.snd.fst)) fun (r_1 : ByteArray) => P.bind (law26_fixed k PUnit.unit) fun (r_2 : Bool) => P.cond r_2 (P.cond (P.seq r (ByteArray.mk #[])) (some true) (P.cond (P.seq r_1 (ByteArray.mk #[])) (some true) (P.cond (P.ieq x.snd.fst x.snd.snd.snd) (some (P.beq (P.seq r r_1) (P.ieq x.snd.fst x.snd.snd.fst))) (some (P.beq (P.seq r r_1) false))))) (some false)) (P.cond (P.ieq ((3 : Int)) ((3 : Int))) (P.bind (family_Text k (x.snd.fst, x.snd.fst)) fun (r : ByteArray) => P.bind (family_Text k (x.snd.snd.snd, x.snd.snd.snd)) fun (r_1 : ByteArray) => P.bind (law26_fixed k PUnit.unit) fun (r_2 : Bool) => P.cond r_2 (P.cond (P.seq r (ByteArray.mk #[])) (some true) (P.cond (P.seq r_1 (ByteArray.mk #[])) (some true) (P.cond (P.ieq x.snd.fst x.snd.snd.snd) (some (P.beq (P.seq r r_1) (P.ieq x.snd.fst x.snd.snd.snd))) (some (P.beq (P.seq r r_1) false))))) (some false)) none)))) none)))) (P.cond (P.ieq ((1 : Int)) ((2 : Int))) (P.cond (P.ieq ((2 : Int)) ((0 : Int))) (P.cond (P.ieq ((3 : Int)) ((0 : Int))) (P.bind (family_Text k (x.snd.fst, x.snd.snd.fst)) fun (r : ByteArray) => P.bind (family_Text k (x.fst, x.fst)) fun (r_1 : ByteArray) => P.bind (law26_fixed k PUnit.unit) fun (r_2 : Bool) => P.cond r_2 (P.cond (P.seq r (ByteArray.mk #[])) (some true) (P.cond (P.seq r_1 (ByteArray.mk #[])) (some true) (P.cond (P.ieq x.snd.fst x.fst) (some (P.beq (P.seq r r_1) (P.ieq x.snd.snd.fst x.fst))) (some (P.beq (P.seq r r_1) false))))) (some false)) (P.cond (P.ieq ((3 : Int)) ((1 : Int))) (P.bind (family_Text k (x.snd.fst, x.snd.snd.fst)) fun (r : ByteArray) => P.bind (family_Text k (x.fst, x.snd.fst)) fun (r_1 : ByteArray) => P.bind (law26_fixed k PUnit.unit) fun (r_2 : Bool) => P.cond r_2 (P.cond (P.seq r (ByteArray.mk #[])) (some true) (P.cond (P.seq r_1 (ByteArray.mk #[])) (some true) (P.cond (P.ieq x.snd.fst x.fst) (some (P.beq (P.seq r r_1) (P.ieq x.snd.snd.fst x.snd.fst))) (some (P.beq (P.seq r r_1) false))))) (some false)) (P.cond (P.ieq ((3 : Int)) ((2 : Int))) (P.bind (family_Text k (x.snd.fst, x.snd.snd.fst)) fun (r : ByteArray) => P.bind (family_Text k (x.fst, x.snd.snd.fst)) fun (r_1 : ByteArray) => P.bind (law26_fixed k PUnit.unit) fun (r_2 : Bool) => P.cond r_2 (P.cond (P.seq r (ByteArray.mk #[])) (some true) (P.cond (P.seq r_1 (ByteArray.mk #[])) (some true) (P.cond (P.ieq x.snd.fst x.fst) (some (P.beq (P.seq r r_1) (P.ieq x.snd.snd.fst x.snd.snd.fst))) (some (P.beq (P.seq r r_1) false))))) (some false)) (P.cond (P.ieq ((3 : Int)) ((3 : Int))) (P.bind (family_Text k (x.snd.fst, x.snd.snd.fst)) fun (r : ByteArray) => P.bind (family_Text k (x.fst, x.snd.snd.snd)) fun (r_1 : ByteArray) => P.bind (law26_fixed k PUnit.unit) fun (r_2 : Bool) => P.cond r_2 (P.cond (P.seq r (ByteArray.mk #[])) (some true) (P.cond (P.seq r_1 (ByteArray.mk #[])) (some true) (P.cond (P.ieq x.snd.fst x.fst) (some (P.beq (P.seq r r_1) (P.ieq x.snd.snd.fst x.snd.snd.snd))) (some (P.beq (P.seq r r_1) false))))) (some false)) none)))) (P.cond (P.ieq ((2 : Int)) ((1 : Int))) (P.cond (P.ieq ((3 : Int)) ((0 : Int))) (P.bind (family_Text k (x.snd.fst, x.snd.snd.fst)) fun (r : ByteArray) => P.bind (family_Text k (x.snd.fst, x.fst)) fun (r_1 : ByteArray) => P.bind (law26_fixed k PUnit.unit) fun (r_2 : Bool) => P.cond r_2 (P.cond (P.seq r (ByteArray.mk #[])) (some true) (P.cond (P.seq r_1 (ByteArray.mk #[])) (some true) (P.cond (P.ieq x.snd.fst x.snd.fst) (some (P.beq (P.seq r r_1) (P.ieq x.snd.snd.fst x.fst))) (some (P.beq (P.seq r r_1) false))))) (some false)) (P.cond (P.ieq ((3 : Int)) ((1 : Int))) (P.bind (family_Text k (x.snd.fst, x.snd.snd.fst)) fun (r : ByteArray) => P.bind (family_Text k (x.snd.fst, x.snd.fst)) fun (r_1 : ByteArray) => P.bind (law26_fixed k PUnit.unit) fun (r_2 : Bool) => P.cond r_2 (P.cond (P.seq r (ByteArray.mk #[])) (some true) (P.cond (P.seq r_1 (ByteArray.mk #[])) (some true) (P.cond (P.ieq x.snd.fst x.snd.fst) (some (P.beq (P.seq r r_1) (P.ieq x.snd.snd.fst x.snd.fst))) (some (P.beq (P.seq r r_1) false))))) (some false)) (P.cond (P.ieq ((3 : Int)) ((2 : Int))) (P.bind (family_Text k (x.snd.fst, x.snd.snd.fst)) fun (r : ByteArray) => P.bind (family_Text k (x.snd.fst, x.snd.snd.fst)) fun (r_1 : ByteArray) => P.bind (law26_fixed k PUnit.unit) fun (r_2 : Bool) => P.cond r_2 (P.cond (P.seq r (ByteArray.mk #[])) (some true) (P.cond (P.seq r_1 (ByteArray.mk #[])) (some true) (P.cond (P.ieq x.snd.fst x.snd.fst) (some (P.beq (P.seq r r_1) (P.ieq x.snd.snd.fst x.snd.snd.fst))) (some (P.beq (P.seq r r_1) false))))) (some false)) (P.cond (P.ieq ((3 : Int)) ((3 : Int))) (P.bind (family_Text k (x.snd.fst, x.snd.snd.fst)) fun (r : ByteArray) => P.bind (family_Text k (x.snd.fst, x.snd.snd.snd)) fun (r_1 : ByteArray) => P.bind (law26_fixed k PUnit.unit) fun (r_2 : Bool) => P.cond r_2 (P.cond (P.seq r (ByteArray.mk #[])) (some true) (P.cond (P.seq r_1 (ByteArray.mk #[])) (some true) (P.cond (P.ieq x.snd.fst x.snd.fst) (some (P.beq (P.seq r r_1) (P.ieq x.snd.snd.fst x.snd.snd.snd))) (some (P.beq (P.seq r r_1) false))))) (some false)) none)))) (P.cond (P.ieq ((2 : Int)) ((2 : Int))) (P.cond (P.ieq ((3 : Int)) ((0 : Int))) (P.bind (family_Text k (x.snd.fst, x.snd.snd.fst)) fun (r : ByteArray) => P.bind (family_Text k (x.snd.snd.fst, x.fst)) fun (r_1 : ByteArray) => P.bind (law26_fixed k PUnit.unit) fun (r_2 : Bool) => P.cond r_2 (P.cond (P.seq r (ByteArray.mk #[])) (some true) (P.cond (P.seq r_1 (ByteArray.mk #[])) (some true) (P.cond (P.ieq x.snd.fst x.snd.snd.fst) (some (P.beq (P.seq r r_1) (P.ieq x.snd.snd.fst x.fst))) (some (P.beq (P.seq r r_1) false))))) (some false)) (P.cond (P.ieq ((3 : Int)) ((1 : Int))) (P.bind (family_Text k (x.snd.fst, x.snd.snd.fst)) fun (r : ByteArray) => P.bind (family_Text k (x.snd.snd.fst, x.snd.fst)) fun (r_1 : ByteArray) => P.bind (law26_fixed k PUnit.unit) fun (r_2 : Bool) => P.cond r_2 (P.cond (P.seq r (ByteArray.mk #[])) (some true) (P.cond (P.seq r_1 (ByteArray.mk #[])) (some true) (P.cond (P.ieq x.snd.fst x.snd.snd.fst) (some (P.beq (P.seq r r_1) (P.ieq x.snd.snd.fst x.snd.fst))) (some (P.beq (P.seq r r_1) false))))) (some false)) (P.cond (P.ieq ((3 : Int)) ((2 : Int))) (P.bind (family_Text k (x.snd.fst, x.snd.snd.fst)) fun (r : ByteArray) => P.bind (family_Text k (x.snd.snd.fst, x.snd.snd.fst)) fun (r_1 : ByteArray) => P.bind (law26_fixed k PUnit.unit) fun (r_2 : Bool) => P.cond r_2 (P.cond (P.seq r (ByteArray.mk #[])) (some true) (P.cond (P.seq r_1 (ByteArray.mk #[])) (some true) (P.cond (P.ieq x.snd.fst x.snd.snd.fst) (some (P.beq (P.seq r r_1) (P.ieq x.snd.snd.fst x.snd.snd.fst))) (some (P.beq (P.seq r r_1) false))))) (some false)) (P.cond (P.ieq ((3 : Int)) ((3 : Int))) (P.bind (family_Text k (x.snd.fst, x.snd.snd.fst)) fun (r : ByteArray) => P.bind (family_Text k (x.snd.snd.fst, x.snd.snd.snd)) fun (r_1 : ByteArray) => P.bind (law26_fixed k PUnit.unit) fun (r_2 : Bool) => P.cond r_2 (P.cond (P.seq r (ByteArray.mk #[])) (some true) (P.cond (P.seq r_1 (ByteArray.mk #[])) (some true) (P.cond (P.ieq x.snd.fst x.snd.snd.fst) (some (P.beq (P.seq r r_1) (P.ieq x.snd.snd.fst x.snd.snd.snd))) (some (P.beq (P.seq r r_1) false))))) (some false)) none)))) (P.cond (P.ieq ((2 : Int)) ((3 : Int))) (P.cond (P.ieq ((3 : Int)) ((0 : Int))) (P.bind (family_Text k (x.snd.fst, x.snd.snd.fst)) fun (r : ByteArray) => P.bind (family_Text k (x.snd.snd.snd, x.fst)) fun (r_1 : ByteArray) => P.bind (law26_fixed k PUnit.unit) fun (r_2 : Bool) => P.cond r_2 (P.cond (P.seq r (ByteArray.mk #[])) (some true) (P.cond (P.seq r_1 (ByteArray.mk #[])) (some true) (P.cond (P.ieq x.snd.fst x.snd.snd.snd) (some (P.beq (P.seq r r_1) (P.ieq x.snd.snd.fst x.fst))) (some (P.beq (P.seq r r_1) false))))) (some false)) (P.cond (P.ieq ((3 : Int)) ((1 : Int))) (P.bind (family_Text k (x.snd.fst, x.snd.snd.fst)) fun (r : ByteArray) => P.bind (family_Text k (x.snd.snd.snd, x.snd.fst)) fun (r_1 : ByteArray) => P.bind (law26_fixed k PUnit.unit) fun (r_2 : Bool) => P.cond r_2 (P.cond (P.seq r (ByteArray.mk #[])) (some true) (P.cond (P.seq r_1 (ByteArray.mk #[])) (some true) (P.cond (P.ieq x.snd.fst x.snd.snd.snd) (some (P.beq (P.seq r r_1) (P.ieq x.snd.snd.fst x.snd.fst))) (some (P.beq (P.seq r r_1) false))))) (some false)) (P.cond (P.ieq ((3 : Int)) ((2 : Int))) (P.bind (family_Text k (x.snd.fst, x.snd.snd.fst)) fun (r : ByteArray) => P.bind (family_Text k (x.snd.snd.snd, x.snd.snd.fst)) fun (r_1 : ByteArray) => P.bind (law26_fixed k PUnit.unit) fun (r_2 : Bool) => P.cond r_2 (P.cond (P.seq r (ByteArray.mk #[])) (some true) (P.cond (P.seq r_1 (ByteArray.mk #[])) (some true) (P.cond (P.ieq x.snd.fst x.snd.snd.snd) (some (P.beq (P.seq r r_1) (P.ieq x.snd.snd.fst x.snd.snd.fst))) (some (P.beq (P.seq r r_1) false))))) (some false)) (P.cond (P.ieq ((3 : Int)) ((3 : Int))) (P.bind (family_Text k (x.snd.fst, x.snd.snd.fst)) fun (r : ByteArray) => P.bind (family_Text k (x.snd.snd.snd, x.snd.snd.snd)) fun (r_1 : ByteArray) => P.bind (law26_fixed k PUnit.unit) fun (r_2 : Bool) => P.cond r_2 (P.cond (P.seq r (ByteArray.mk #[])) (some true) (P.cond (P.seq r_1 (ByteArray.mk #[])) (some true) (P.cond (P.ieq x.snd.fst x.snd.snd.snd) (some (P.beq (P.seq r r_1) (P.ieq x.snd.snd.fst x.snd.snd.snd))) (some (P.beq (P.seq r r_1) false))))) (some false)) none)))) none)))) (P.cond (P.ieq ((1 : Int)) ((3 : Int))) (P.cond (P.ieq ((2 : Int)) ((0 : Int))) (P.cond (P.ieq ((3 : Int)) ((0 : Int))) (P.bind (family_Text k (x.snd.fst, x.snd.snd.snd)) fun (r : ByteArray) => P.bind (family_Text k (x.fst, x.fst)) fun (r_1 : ByteArray) => P.bind (law26_fixed k PUnit.unit) fun (r_2 : Bool) => P.cond r_2 (P.cond (P.seq r (ByteArray.mk #[])) (some true) (P.cond (P.seq r_1 (ByteArray.mk #[])) (some true) (P.cond (P.ieq x.snd.fst x.fst) (some (P.beq (P.seq r r_1) (P.ieq x.snd.snd.snd x.fst))) (some (P.beq (P.seq r r_1) false))))) (some false)) (P.cond (P.ieq ((3 : Int)) ((1 : Int))) (P.bind (family_Text k (x.snd.fst, x.snd.snd.snd)) fun (r : ByteArray) => P.bind (family_Text k (x.fst, x.snd.fst)) fun (r_1 : ByteArray) => P.bind (law26_fixed k PUnit.unit) fun (r_2 : Bool) => P.cond r_2 (P.cond (P.seq r (ByteArray.mk #[])) (some true) (P.cond (P.seq r_1 (ByteArray.mk #[])) (some true) (P.cond (P.ieq x.snd.fst x.fst) (some (P.beq (P.seq r r_1) (P.ieq x.snd.snd.snd x.snd.fst))) (some (P.beq (P.seq r r_1) false))))) (some false)) (P.cond (P.ieq ((3 : Int)) ((2 : Int))) (P.bind (family_Text k (x.snd.fst, x.snd.snd.snd)) fun (r : ByteArray) => P.bind (family_Text k (x.fst, x.snd.snd.fst)) fun (r_1 : ByteArray) => P.bind (law26_fixed k PUnit.unit) fun (r_2 : Bool) => P.cond r_2 (P.cond (P.seq r (ByteArray.mk #[])) (some true) (P.cond (P.seq r_1 (ByteArray.mk #[])) (some true) (P.cond (P.ieq x.snd.fst x.fst) (some (P.beq (P.seq r r_1) (P.ieq x.snd.snd.snd x.snd.snd.fst))) (some (P.beq (P.seq r r_1) false))))) (some false)) (P.cond (P.ieq ((3 : Int)) ((3 : Int))) (P.bind (family_Text k (x.snd.fst, x.snd.snd.snd)) fun (r : ByteArray) => P.bind (family_Text k (x.fst, x.snd.snd.snd)) fun (r_1 : ByteArray) => P.bind (law26_fixed k PUnit.unit) fun (r_2 : Bool) => P.cond r_2 (P.cond (P.seq r (ByteArray.mk #[])) (some true) (P.cond (P.seq r_1 (ByteArray.mk #[])) (some true) (P.cond (P.ieq x.snd.fst x.fst) (some (P.beq (P.seq r r_1) (P.ieq x.snd.snd.snd x.snd.snd.snd))) (some (P.beq (P.seq r r_1) false))))) (some false)) none)))) (P.cond (P.ieq ((2 : Int)) ((1 : Int))) (P.cond (P.ieq ((3 : Int)) ((0 : Int))) (P.bind (family_Text k (x.snd.fst, x.snd.snd.snd)) fun (r : ByteArray) => P.bind (family_Text k (x.snd.fst, x.fst)) fun (r_1 : ByteArray) => P.bind (law26_fixed k PUnit.unit) fun (r_2 : Bool) => P.cond r_2 (P.cond (P.seq r (ByteArray.mk #[])) (some true) (P.cond (P.seq r_1 (ByteArray.mk #[])) (some true) (P.cond (P.ieq x.snd.fst x.snd.fst) (some (P.beq (P.seq r r_1) (P.ieq x.snd.snd.snd x.fst))) (some (P.beq (P.seq r r_1) false))))) (some false)) (P.cond (P.ieq ((3 : Int)) ((1 : Int))) (P.bind (family_Text k (x.snd.fst, x.snd.snd.snd)) fun (r : ByteArray) => P.bind (family_Text k (x.snd.fst, x.snd.fst)) fun (r_1 : ByteArray) => P.bind (law26_fixed k PUnit.unit) fun (r_2 : Bool) => P.cond r_2 (P.cond (P.seq r (ByteArray.mk #[])) (some true) (P.cond (P.seq r_1 (ByteArray.mk #[])) (some true) (P.cond (P.ieq x.snd.fst x.snd.fst) (some (P.beq (P.seq r r_1) (P.ieq x.snd.snd.snd x.snd.fst))) (some (P.beq (P.seq r r_1) false))))) (some false)) (P.cond (P.ieq ((3 : Int)) ((2 : Int))) (P.bind (family_Text k (x.snd.fst, x.snd.snd.snd)) fun (r : ByteArray) => P.bind (family_Text k (x.snd.fst, x.snd.snd.fst)) fun (r_1 : ByteArray) => P.bind (law26_fixed k PUnit.unit) fun (r_2 : Bool) => P.cond r_2 (P.cond (P.seq r (ByteArray.mk #[])) (some true) (P.cond (P.seq r_1 (ByteArray.mk #[])) (some true) (P.cond (P.ieq x.snd.fst x.snd.fst) (some (P.beq (P.seq r r_1) (P.ieq x.snd.snd.snd x.snd.snd.fst))) (some (P.beq (P.seq r r_1) false))))) (some false)) (P.cond (P.ieq ((3 : Int)) ((3 : Int))) (P.bind (family_Text k (x.snd.fst, x.snd.snd.snd)) fun (r : ByteArray) => P.bind (family_Text k (x.snd.fst, x.snd.snd.snd)) fun (r_1 : ByteArray) => P.bind (law26_fixed k PUnit.unit) fun (r_2 : Bool) => P.cond r_2 (P.cond (P.seq r (ByteArray.mk #[])) (some true) (P.cond (P.seq r_1 (ByteArray.mk #[])) (some true) (P.cond (P.ieq x.snd.fst x.snd.fst) (some (P.beq (P.seq r r_1) (P.ieq x.snd.snd.snd x.snd.snd.snd))) (some (P.beq (P.seq r r_1) false))))) (some false)) none)))) (P.cond (P.ieq ((2 : Int)) ((2 : Int))) (P.cond (P.ieq ((3 : Int)) ((0 : Int))) (P.bind (family_Text k (x.snd.fst, x.snd.snd.snd)) fun (r : ByteArray) => P.bind (family_Text k (x.snd.snd.fst, x.fst)) fun (r_1 : ByteArray) => P.bind (law26_fixed k PUnit.unit) fun (r_2 : Bool) => P.cond r_2 (P.cond (P.seq r (ByteArray.mk #[])) (some true) (P.cond (P.seq r_1 (ByteArray.mk #[])) (some true) (P.cond (P.ieq x.snd.fst x.snd.snd.fst) (some (P.beq (P.seq r r_1) (P.ieq x.snd.snd.snd x.fst))) (some (P.beq (P.seq r r_1) false))))) (some false)) (P.cond (P.ieq ((3 : Int)) ((1 : Int))) (P.bind (family_Text k (x.snd.fst, x.snd.snd.snd)) fun (r : ByteArray) => P.bind (family_Text k (x.snd.snd.fst, x.snd.fst)) fun (r_1 : ByteArray) => P.bind (law26_fixed k PUnit.unit) fun (r_2 : Bool) => P.cond r_2 (P.cond (P.seq r (ByteArray.mk #[])) (some true) (P.cond (P.seq r_1 (ByteArray.mk #[])) (some true) (P.cond (P.ieq x.snd.fst x.snd.snd.fst) (some (P.beq (P.seq r r_1) (P.ieq x.snd.snd.snd x.snd.fst))) (some (P.beq (P.seq r r_1) false))))) (some false)) (P.cond (P.ieq ((3 : Int)) ((2 : Int))) (P.bind (family_Text k (x.snd.fst, x.snd.snd.snd)) fun (r : ByteArray) => P.bind (family_Text k (x.snd.snd.fst, x.snd.snd.fst)) fun (r_1 : ByteArray) => P.bind (law26_fixed k PUnit.unit) fun (r_2 : Bool) => P.cond r_2 (P.cond (P.seq r (ByteArray.mk #[])) (some true) (P.cond (P.seq r_1 (ByteArray.mk #[])) (some true) (P.cond (P.ieq x.snd.fst x.snd.snd.fst) (some (P.beq (P.seq r r_1) (P.ieq x.snd.snd.snd x.snd.snd.fst))) (some (P.beq (P.seq r r_1) false))))) (some false)) (P.cond (P.ieq ((3 : Int)) ((3 : Int))) (P.bind (family_Text k (x.snd.fst, x.snd.snd.snd)) fun (r : ByteArray) => P.bind (family_Text k (x.snd.snd.fst, x.snd.snd.snd)) fun (r_1 : ByteArray) => P.bind (law26_fixed k PUnit.unit) fun (r_2 : Bool) => P.cond r_2 (P.cond (P.seq r (ByteArray.mk #[])) (some true) (P.cond (P.seq r_1 (ByteArray.mk #[])) (some true) (P.cond (P.ieq x.snd.fst x.snd.snd.fst) (some (P.beq (P.seq r r_1) (P.ieq x.snd.snd.snd x.snd.snd.snd))) (some (P.beq (P.seq r r_1) false))))) (some false)) none)))) (P.cond (P.ieq ((2 : Int)) ((3 : Int))) (P.cond (P.ieq ((3 : Int)) ((0 : Int))) (P.bind (family_Text k (x.snd.fst, x.snd.snd.snd)) fun (r : ByteArray) => P.bind (family_Text k (x.snd.snd.snd, x.fst)) fun (r_1 : ByteArray) => P.bind (law26_fixed k PUnit.unit) fun (r_2 : Bool) => P.cond r_2 (P.cond (P.seq r (ByteArray.mk #[])) (some true) (P.cond (P.seq r_1 (ByteArray.mk #[])) (some true) (P.cond (P.ieq x.snd.fst x.snd.snd.snd) (some (P.beq (P.seq r r_1) (P.ieq x.snd.snd.snd x.fst))) (some (P.beq (P.seq r r_1) false))))) (some false)) (P.cond (P.ieq ((3 : Int)) ((1 : Int))) (P.bind (family_Text k (x.snd.fst, x.snd.snd.snd)) fun (r : ByteArray) => P.bind (family_Text k (x.snd.snd.snd, x.snd.fst)) fun (r_1 : ByteArray) => P.bind (law26_fixed k PUnit.unit) fun (r_2 : Bool) => P.cond r_2 (P.cond (P.seq r (ByteArray.mk #[])) (some true) (P.cond (P.seq r_1 (ByteArray.mk #[])) (some true) (P.cond (P.ieq x.snd.fst x.snd.snd.snd) (some (P.beq (P.seq r r_1) (P.ieq x.snd.snd.snd x.snd.fst))) (some (P.beq (P.seq r r_1) false))))) (some false)) (P.cond (P.ieq ((3 : Int)) ((2 : Int))) (P.bind (family_Text k (x.snd.fst, x.snd.snd.snd)) fun (r : ByteArray) => P.bind (family_Text k (x.snd.snd.snd, x.snd.snd.fst)) fun (r_1 : ByteArray) => P.bind (law26_fixed k PUnit.unit) fun (r_2 : Bool) => P.cond r_2 (P.cond (P.seq r (ByteArray.mk #[])) (some true) (P.cond (P.seq r_1 (ByteArray.mk #[])) (some true) (P.cond (P.ieq x.snd.fst x.snd.snd.snd) (some (P.beq (P.seq r r_1) (P.ieq x.snd.snd.snd x.snd.snd.fst))) (some (P.beq (P.seq r r_1) false))))) (some false)) (P.cond (P.ieq ((3 : Int)) ((3 : Int))) (P.bind (family_Text k (x.snd.fst, x.snd.snd.snd)) fun (r : ByteArray) => P.bind (family_Text k (x.snd.snd.snd, x.snd.snd.snd)) fun (r_1 : ByteArray) => P.bind (law26_fixed k PUnit.unit) fun (r_2 : Bool) => P.cond r_2 (P.cond (P.seq r (ByteArray.mk #[])) (some true) (P.cond (P.seq r_1 (ByteArray.mk #[])) (some true) (P.cond (P.ieq x.snd.fst x.snd.snd.snd) (some (P.beq (P.seq r r_1) (P.ieq x.snd.snd.snd x.snd.snd.snd))) (some (P.beq (P.seq r r_1) false))))) (some false)) none)))) none)))) none)))) (P.cond (P.ieq ((0 : Int)) ((2 : Int))) (P.cond (P.ieq ((1 : Int)) ((0 : Int))) (P.cond (P.ieq ((2 : Int)) ((0 : Int))) (P.cond (P.ieq ((3 : Int)) ((0 : Int))) (P.bind (family_Text k (x.snd.snd.fst, x.fst)) fun (r : ByteArray) => P.bind (family_Text k (x.fst, x.fst)) fun (r_1 : ByteArray) => P.bind (law26_fixed k PUnit.unit) fun (r_2 : Bool) => P.cond r_2 (P.cond (P.seq r (ByteArray.mk #[])) (some true) (P.cond (P.seq r_1 (ByteArray.mk #[])) (some true) (P.cond (P.ieq x.snd.snd.fst x.fst) (some (P.beq (P.seq r r_1) (P.ieq x.fst x.fst))) (some (P.beq (P.seq r r_1) false))))) (some false)) (P.cond (P.ieq ((3 : Int)) ((1 : Int))) (P.bind (family_Text k (x.snd.snd.fst, x.fst)) fun (r : ByteArray) => P.bind (family_Text k (x.fst, x.snd.fst)) fun (r_1 : ByteArray) => P.bind (law26_fixed k PUnit.unit) fun (r_2 : Bool) => P.cond r_2 (P.cond (P.seq r (ByteArray.mk #[])) (some true) (P.cond (P.seq r_1 (ByteArray.mk #[])) (some true) (P.cond (P.ieq x.snd.snd.fst x.fst) (some (P.beq (P.seq r r_1) (P.ieq x.fst x.snd.fst))) (some (P.beq (P.seq r r_1) false))))) (some false)) (P.cond (P.ieq ((3 : Int)) ((2 : Int))) (P.bind (family_Text k (x.snd.snd.fst, x.fst)) fun (r : ByteArray) => P.bind (family_Text k (x.fst, x.snd.snd.fst)) fun (r_1 : ByteArray) => P.bind (law26_fixed k PUnit.unit) fun (r_2 : Bool) => P.cond r_2 (P.cond (P.seq r (ByteArray.mk #[])) (some true) (P.cond (P.seq r_1 (ByteArray.mk #[])) (some true) (P.cond (P.ieq x.snd.snd.fst x.fst) (some (P.beq (P.seq r r_1) (P.ieq x.fst x.snd.snd.fst))) (some (P.beq (P.seq r r_1) false))))) (some false)) (P.cond (P.ieq ((3 : Int)) ((3 : Int))) (P.bind (family_Text k (x.snd.snd.fst, x.fst)) fun (r : ByteArray) => P.bind (family_Text k (x.fst, x.snd.snd.snd)) fun (r_1 : ByteArray) => P.bind (law26_fixed k PUnit.unit) fun (r_2 : Bool) => P.cond r_2 (P.cond (P.seq r (ByteArray.mk #[])) (some true) (P.cond (P.seq r_1 (ByteArray.mk #[])) (some true) (P.cond (P.ieq x.snd.snd.fst x.fst) (some (P.beq (P.seq r r_1) (P.ieq x.fst x.snd.snd.snd))) (some (P.beq (P.seq r r_1) false))))) (some false)) none)))) (P.cond (P.ieq ((2 : Int)) ((1 : Int))) (P.cond (P.ieq ((3 : Int)) ((0 : Int))) (P.bind (family_Text k (x.snd.snd.fst, x.fst)) fun (r : ByteArray) => P.bind (family_Text k (x.snd.fst, x.fst)) fun (r_1 : ByteArray) => P.bind (law26_fixed k PUnit.unit) fun (r_2 : Bool) => P.cond r_2 (P.cond (P.seq r (ByteArray.mk #[])) (some true) (P.cond (P.seq r_1 (ByteArray.mk #[])) (some true) (P.cond (P.ieq x.snd.snd.fst x.snd.fst) (some (P.beq (P.seq r r_1) (P.ieq x.fst x.fst))) (some (P.beq (P.seq r r_1) false))))) (some false)) (P.cond (P.ieq ((3 : Int)) ((1 : Int))) (P.bind (family_Text k (x.snd.snd.fst, x.fst)) fun (r : ByteArray) => P.bind (family_Text k (x.snd.fst, x.snd.fst)) fun (r_1 : ByteArray) => P.bind (law26_fixed k PUnit.unit) fun (r_2 : Bool) => P.cond r_2 (P.cond (P.seq r (ByteArray.mk #[])) (some true) (P.cond (P.seq r_1 (ByteArray.mk #[])) (some true) (P.cond (P.ieq x.snd.snd.fst x.snd.fst) (some (P.beq (P.seq r r_1) (P.ieq x.fst x.snd.fst))) (some (P.beq (P.seq r r_1) false))))) (some false)) (P.cond (P.ieq ((3 : Int)) ((2 : Int))) (P.bind (family_Text k (x.snd.snd.fst, x.fst)) fun (r : ByteArray) => P.bind (family_Text k (x.snd.fst, x.snd.snd.fst)) fun (r_1 : ByteArray) => P.bind (law26_fixed k PUnit.unit) fun (r_2 : Bool) => P.cond r_2 (P.cond (P.seq r (ByteArray.mk #[])) (some true) (P.cond (P.seq r_1 (ByteArray.mk #[])) (some true) (P.cond (P.ieq x.snd.snd.fst x.snd.fst) (some (P.beq (P.seq r r_1) (P.ieq x.fst x.snd.snd.fst))) (some (P.beq (P.seq r r_1) false))))) (some false)) (P.cond (P.ieq ((3 : Int)) ((3 : Int))) (P.bind (family_Text k (x.snd.snd.fst, x.fst)) fun (r : ByteArray) => P.bind (family_Text k (x.snd.fst, x.snd.snd.snd)) fun (r_1 : ByteArray) => P.bind (law26_fixed k PUnit.unit) fun (r_2 : Bool) => P.cond r_2 (P.cond (P.seq r (ByteArray.mk #[])) (some true) (P.cond (P.seq r_1 (ByteArray.mk #[])) (some true) (P.cond (P.ieq x.snd.snd.fst x.snd.fst) (some (P.beq (P.seq r r_1) (P.ieq x.fst x.snd.snd.snd))) (some (P.beq (P.seq r r_1) false))))) (some false)) none)))) (P.cond (P.ieq ((2 : Int)) ((2 : Int))) (P.cond (P.ieq ((3 : Int)) ((0 : Int))) (P.bind (family_Text k (x.snd.snd.fst, x.fst)) fun (r : ByteArray) => P.bind (family_Text k (x.snd.snd.fst, x.fst)) fun (r_1 : ByteArray) => P.bind (law26_fixed k PUnit.unit) fun (r_2 : Bool) => P.cond r_2 (P.cond (P.seq r (ByteArray.mk #[])) (some true) (P.cond (P.seq r_1 (ByteArray.mk #[])) (some true) (P.cond (P.ieq x.snd.snd.fst x.snd.snd.fst) (some (P.beq (P.seq r r_1) (P.ieq x.fst x.fst))) (some (P.beq (P.seq r r_1) false))))) (some false)) (P.cond (P.ieq ((3 : Int)) ((1 : Int))) (P.bind (family_Text k (x.snd.snd.fst, x.fst)) fun (r : ByteArray) => P.bind (family_Text k (x.snd.snd.fst, x.snd.fst)) fun (r_1 : ByteArray) => P.bind (law26_fixed k PUnit.unit) fun (r_2 : Bool) => P.cond r_2 (P.cond (P.seq r (ByteArray.mk #[])) (some true) (P.cond (P.seq r_1 (ByteArray.mk #[])) (some true) (P.cond (P.ieq x.snd.snd.fst x.snd.snd.fst) (some (P.beq (P.seq r r_1) (P.ieq x.fst x.snd.fst))) (some (P.beq (P.seq r r_1) false))))) (some false)) (P.cond (P.ieq ((3 : Int)) ((2 : Int))) (P.bind (family_Text k (x.snd.snd.fst, x.fst)) fun (r : ByteArray) => P.bind (family_Text k (x.snd.snd.fst, x.snd.snd.fst)) fun (r_1 : ByteArray) => P.bind (law26_fixed k PUnit.unit) fun (r_2 : Bool) => P.cond r_2 (P.cond (P.seq r (ByteArray.mk #[])) (some true) (P.cond (P.seq r_1 (ByteArray.mk #[])) (some true) (P.cond (P.ieq x.snd.snd.fst x.snd.snd.fst) (some (P.beq (P.seq r r_1) (P.ieq x.fst x.snd.snd.fst))) (some (P.beq (P.seq r r_1) false))))) (some false)) (P.cond (P.ieq ((3 : Int)) ((3 : Int))) (P.bind (family_Text k (x.snd.snd.fst, x.fst)) fun (r : ByteArray) => P.bind (family_Text k (x.snd.snd.fst, x.snd.snd.snd)) fun (r_1 : ByteArray) => P.bind (law26_fixed k PUnit.unit) fun (r_2 : Bool) => P.cond r_2 (P.cond (P.seq r (ByteArray.mk #[])) (some true) (P.cond (P.seq r_1 (ByteArray.mk #[])) (some true) (P.cond (P.ieq x.snd.snd.fst x.snd.snd.fst) (some (P.beq (P.seq r r_1) (P.ieq x.fst x.snd.snd.snd))) (some (P.beq (P.seq r r_1) false))))) (some false)) none)))) (P.cond (P.ieq ((2 : Int)) ((3 : Int))) (P.cond (P.ieq ((3 : Int)) ((0 : Int))) (P.bind (family_Text k (x.snd.snd.fst, x.fst)) fun (r : ByteArray) => P.bind (family_Text k (x.snd.snd.snd, x.fst)) fun (r_1 : ByteArray) => P.bind (law26_fixed k PUnit.unit) fun (r_2 : Bool) => P.cond r_2 (P.cond (P.seq r (ByteArray.mk #[])) (some true) (P.cond (P.seq r_1 (ByteArray.mk #[])) (some true) (P.cond (P.ieq x.snd.snd.fst x.snd.snd.snd) (some (P.beq (P.seq r r_1) (P.ieq x.fst x.fst))) (some (P.beq (P.seq r r_1) false))))) (some false)) (P.cond (P.ieq ((3 : Int)) ((1 : Int))) (P.bind (family_Text k (x.snd.snd.fst, x.fst)) fun (r : ByteArray) => P.bind (family_Text k (x.snd.snd.snd, x.snd.fst)) fun (r_1 : ByteArray) => P.bind (law26_fixed k PUnit.unit) fun (r_2 : Bool) => P.cond r_2 (P.cond (P.seq r (ByteArray.mk #[])) (some true) (P.cond (P.seq r_1 (ByteArray.mk #[])) (some true) (P.cond (P.ieq x.snd.snd.fst x.snd.snd.snd) (some (P.beq (P.seq r r_1) (P.ieq x.fst x.snd.fst))) (some (P.beq (P.seq r r_1) false))))) (some false)) (P.cond (P.ieq ((3 : Int)) ((2 : Int))) (P.bind (family_Text k (x.snd.snd.fst, x.fst)) fun (r : ByteArray) => P.bind (family_Text k (x.snd.snd.snd, x.snd.snd.fst)) fun (r_1 : ByteArray) => P.bind (law26_fixed k PUnit.unit) fun (r_2 : Bool) => P.cond r_2 (P.cond (P.seq r (ByteArray.mk #[])) (some true) (P.cond (P.seq r_1 (ByteArray.mk #[])) (some true) (P.cond (P.ieq x.snd.snd.fst x.snd.snd.snd) (some (P.beq (P.seq r r_1) (P.ieq x.fst x.snd.snd.fst))) (some (P.beq (P.seq r r_1) false))))) (some false)) (P.cond (P.ieq ((3 : Int)) ((3 : Int))) (P.bind (family_Text k (x.snd.snd.fst, x.fst)) fun (r : ByteArray) => P.bind (family_Text k (x.snd.snd.snd, x.snd.snd.snd)) fun (r_1 : ByteArray) => P.bind (law26_fixed k PUnit.unit) fun (r_2 : Bool) => P.cond r_2 (P.cond (P.seq r (ByteArray.mk #[])) (some true) (P.cond (P.seq r_1 (ByteArray.mk #[])) (some true) (P.cond (P.ieq x.snd.snd.fst x.snd.snd.snd) (some (P.beq (P.seq r r_1) (P.ieq x.fst x.snd.snd.snd))) (some (P.beq (P.seq r r_1) false))))) (some false)) none)))) none)))) (P.cond (P.ieq ((1 : Int)) ((1 : Int))) (P.cond (P.ieq ((2 : Int)) ((0 : Int))) (P.cond (P.ieq ((3 : Int)) ((0 : Int))) (P.bind (family_Text k (x.snd.snd.fst, x.snd.fst)) fun (r : ByteArray) => P.bind (family_Text k (x.fst, x.fst)) fun (r_1 : ByteArray) => P.bind (law26_fixed k PUnit.unit) fun (r_2 : Bool) => P.cond r_2 (P.cond (P.seq r (ByteArray.mk #[])) (some true) (P.cond (P.seq r_1 (ByteArray.mk #[])) (some true) (P.cond (P.ieq x.snd.snd.fst x.fst) (some (P.beq (P.seq r r_1) (P.ieq x.snd.fst x.fst))) (some (P.beq (P.seq r r_1) false))))) (some false)) (P.cond (P.ieq ((3 : Int)) ((1 : Int))) (P.bind (family_Text k (x.snd.snd.fst, x.snd.fst)) fun (r : ByteArray) => P.bind (family_Text k (x.fst, x.snd.fst)) fun (r_1 : ByteArray) => P.bind (law26_fixed k PUnit.unit) fun (r_2 : Bool) => P.cond r_2 (P.cond (P.seq r (ByteArray.mk #[])) (some true) (P.cond (P.seq r_1 (ByteArray.mk #[])) (some true) (P.cond (P.ieq x.snd.snd.fst x.fst) (some (P.beq (P.seq r r_1) (P.ieq x.snd.fst x.snd.fst))) (some (P.beq (P.seq r r_1) false))))) (some false)) (P.cond (P.ieq ((3 : Int)) ((2 : Int))) (P.bind (family_Text k (x.snd.snd.fst, x.snd.fst)) fun (r : ByteArray) => P.bind (family_Text k (x.fst, x.snd.snd.fst)) fun (r_1 : ByteArray) => P.bind (law26_fixed k PUnit.unit) fun (r_2 : Bool) => P.cond r_2 (P.cond (P.seq r (ByteArray.mk #[])) (some true) (P.cond (P.seq r_1 (ByteArray.mk #[])) (some true) (P.cond (P.ieq x.snd.snd.fst x.fst) (some (P.beq (P.seq r r_1) (P.ieq x.snd.fst x.snd.snd.fst))) (some (P.beq (P.seq r r_1) false))))) (some false)) (P.cond (P.ieq ((3 : Int)) ((3 : Int))) (P.bind (family_Text k (x.snd.snd.fst, x.snd.fst)) fun (r : ByteArray) => P.bind (family_Text k (x.fst, x.snd.snd.snd)) fun (r_1 : ByteArray) => P.bind (law26_fixed k PUnit.unit) fun (r_2 : Bool) => P.cond r_2 (P.cond (P.seq r (ByteArray.mk #[])) (some true) (P.cond (P.seq r_1 (ByteArray.mk #[])) (some true) (P.cond (P.ieq x.snd.snd.fst x.fst) (some (P.beq (P.seq r r_1) (P.ieq x.snd.fst x.snd.snd.snd))) (some (P.beq (P.seq r r_1) false))))) (some false)) none)))) (P.cond (P.ieq ((2 : Int)) ((1 : Int))) (P.cond (P.ieq ((3 : Int)) ((0 : Int))) (P.bind (family_Text k (x.snd.snd.fst, x.snd.fst)) fun (r : ByteArray) => P.bind (family_Text k (x.snd.fst, x.fst)) fun (r_1 : ByteArray) => P.bind (law26_fixed k PUnit.unit) fun (r_2 : Bool) => P.cond r_2 (P.cond (P.seq r (ByteArray.mk #[])) (some true) (P.cond (P.seq r_1 (ByteArray.mk #[])) (some true) (P.cond (P.ieq x.snd.snd.fst x.snd.fst) (some (P.beq (P.seq r r_1) (P.ieq x.snd.fst x.fst))) (some (P.beq (P.seq r r_1) false))))) (some false)) (P.cond (P.ieq ((3 : Int)) ((1 : Int))) (P.bind (family_Text k (x.snd.snd.fst, x.snd.fst)) fun (r : ByteArray) => P.bind (family_Text k (x.snd.fst, x.snd.fst)) fun (r_1 : ByteArray) => P.bind (law26_fixed k PUnit.unit) fun (r_2 : Bool) => P.cond r_2 (P.cond (P.seq r (ByteArray.mk #[])) (some true) (P.cond (P.seq r_1 (ByteArray.mk #[])) (some true) (P.cond (P.ieq x.snd.snd.fst x.snd.fst) (some (P.beq (P.seq r r_1) (P.ieq x.snd.fst x.snd.fst))) (some (P.beq (P.seq r r_1) false))))) (some false)) (P.cond (P.ieq ((3 : Int)) ((2 : Int))) (P.bind (family_Text k (x.snd.snd.fst, x.snd.fst)) fun (r : ByteArray) => P.bind (family_Text k (x.snd.fst, x.snd.snd.fst)) fun (r_1 : ByteArray) => P.bind (law26_fixed k PUnit.unit) fun (r_2 : Bool) => P.cond r_2 (P.cond (P.seq r (ByteArray.mk #[])) (some true) (P.cond (P.seq r_1 (ByteArray.mk #[])) (some true) (P.cond (P.ieq x.snd.snd.fst x.snd.fst) (some (P.beq (P.seq r r_1) (P.ieq x.snd.fst x.snd.snd.fst))) (some (P.beq (P.seq r r_1) false))))) (some false)) (P.cond (P.ieq ((3 : Int)) ((3 : Int))) (P.bind (family_Text k (x.snd.snd.fst, x.snd.fst)) fun (r : ByteArray) => P.bind (family_Text k (x.snd.fst, x.snd.snd.snd)) fun (r_1 : ByteArray) => P.bind (law26_fixed k PUnit.unit) fun (r_2 : Bool) => P.cond r_2 (P.cond (P.seq r (ByteArray.mk #[])) (some true) (P.cond (P.seq r_1 (ByteArray.mk #[])) (some true) (P.cond (P.ieq x.snd.snd.fst x.snd.fst) (some (P.beq (P.seq r r_1) (P.ieq x.snd.fst x.snd.snd.snd))) (some (P.beq (P.seq r r_1) false))))) (some false)) none)))) (P.cond (P.ieq ((2 : Int)) ((2 : Int))) (P.cond (P.ieq ((3 : Int)) ((0 : Int))) (P.bind (family_Text k (x.snd.snd.fst, x.snd.fst)) fun (r : ByteArray) => P.bind (family_Text k (x.snd.snd.fst, x.fst)) fun (r_1 : ByteArray) => P.bind (law26_fixed k PUnit.unit) fun (r_2 : Bool) => P.cond r_2 (P.cond (P.seq r (ByteArray.mk #[])) (some true) (P.cond (P.seq r_1 (ByteArray.mk #[])) (some true) (P.cond (P.ieq x.snd.snd.fst x.snd.snd.fst) (some (P.beq (P.seq r r_1) (P.ieq x.snd.fst x.fst))) (some (P.beq (P.seq r r_1) false))))) (some false)) (P.cond (P.ieq ((3 : Int)) ((1 : Int))) (P.bind (family_Text k (x.snd.snd.fst, x.snd.fst)) fun (r : ByteArray) => P.bind (family_Text k (x.snd.snd.fst, x.snd.fst)) fun (r_1 : ByteArray) => P.bind (law26_fixed k PUnit.unit) fun (r_2 : Bool) => P.cond r_2 (P.cond (P.seq r (ByteArray.mk #[])) (some true) (P.cond (P.seq r_1 (ByteArray.mk #[])) (some true) (P.cond (P.ieq x.snd.snd.fst x.snd.snd.fst) (some (P.beq (P.seq r r_1) (P.ieq x.snd.fst x.snd.fst))) (some (P.beq (P.seq r r_1) false))))) (some false)) (P.cond (P.ieq ((3 : Int)) ((2 : Int))) (P.bind (family_Text k (x.snd.snd.fst, x.snd.fst)) fun (r : ByteArray) => P.bind (family_Text k (x.snd.snd.fst, x.snd.snd.fst)) fun (r_1 : ByteArray) => P.bind (law26_fixed k PUnit.unit) fun (r_2 : Bool) => P.cond r_2 (P.cond (P.seq r (ByteArray.mk #[])) (some true) (P.cond (P.seq r_1 (ByteArray.mk #[])) (some true) (P.cond (P.ieq x.snd.snd.fst x.snd.snd.fst) (some (P.beq (P.seq r r_1) (P.ieq x.snd.fst x.snd.snd.fst))) (some (P.beq (P.seq r r_1) false))))) (some false)) (P.cond (P.ieq ((3 : Int)) ((3 : Int))) (P.bind (family_Text k (x.snd.snd.fst, x.snd.fst)) fun (r : ByteArray) => P.bind (family_Text k (x.snd.snd.fst, x.snd.snd.snd)) fun (r_1 : ByteArray) => P.bind (law26_fixed k PUnit.unit) fun (r_2 : Bool) => P.cond r_2 (P.cond (P.seq r (ByteArray.mk #[])) (some true) (P.cond (P.seq r_1 (ByteArray.mk #[])) (some true) (P.cond (P.ieq x.snd.snd.fst x.snd.snd.fst) (some (P.beq (P.seq r r_1) (P.ieq x.snd.fst x.snd.snd.snd))) (some (P.beq (P.seq r r_1) false))))) (some false)) none)))) (P.cond (P.ieq ((2 : Int)) ((3 : Int))) (P.cond (P.ieq ((3 : Int)) ((0 : Int))) (P.bind (family_Text k (x.snd.snd.fst, x.snd.fst)) fun (r : ByteArray) => P.bind (family_Text k (x.snd.snd.snd, x.fst)) fun (r_1 : ByteArray) => P.bind (law26_fixed k PUnit.unit) fun (r_2 : Bool) => P.cond r_2 (P.cond (P.seq r (ByteArray.mk #[])) (some true) (P.cond (P.seq r_1 (ByteArray.mk #[])) (some true) (P.cond (P.ieq x.snd.snd.fst x.snd.snd.snd) (some (P.beq (P.seq r r_1) (P.ieq x.snd.fst x.fst))) (some (P.beq (P.seq r r_1) false))))) (some false)) (P.cond (P.ieq ((3 : Int)) ((1 : Int))) (P.bind (family_Text k (x.snd.snd.fst, x.snd.fst)) fun (r : ByteArray) => P.bind (family_Text k (x.snd.snd.snd, x.snd.fst)) fun (r_1 : ByteArray) => P.bind (law26_fixed k PUnit.unit) fun (r_2 : Bool) => P.cond r_2 (P.cond (P.seq r (ByteArray.mk #[])) (some true) (P.cond (P.seq r_1 (ByteArray.mk #[])) (some true) (P.cond (P.ieq x.snd.snd.fst x.snd.snd.snd) (some (P.beq (P.seq r r_1) (P.ieq x.snd.fst x.snd.fst))) (some (P.beq (P.seq r r_1) false))))) (some false)) (P.cond (P.ieq ((3 : Int)) ((2 : Int))) (P.bind (family_Text k (x.snd.snd.fst, x.snd.fst)) fun (r : ByteArray) => P.bind (family_Text k (x.snd.snd.snd, x.snd.snd.fst)) fun (r_1 : ByteArray) => P.bind (law26_fixed k PUnit.unit) fun (r_2 : Bool) => P.cond r_2 (P.cond (P.seq r (ByteArray.mk #[])) (some true) (P.cond (P.seq r_1 (ByteArray.mk #[])) (some true) (P.cond (P.ieq x.snd.snd.fst x.snd.snd.snd) (some (P.beq (P.seq r r_1) (P.ieq x.snd.fst x.snd.snd.fst))) (some (P.beq (P.seq r r_1) false))))) (some false)) (P.cond (P.ieq ((3 : Int)) ((3 : Int))) (P.bind (family_Text k (x.snd.snd.fst, x.snd.fst)) fun (r : ByteArray) => P.bind (family_Text k (x.snd.snd.snd, x.snd.snd.snd)) fun (r_1 : ByteArray) => P.bind (law26_fixed k PUnit.unit) fun (r_2 : Bool) => P.cond r_2 (P.cond (P.seq r (ByteArray.mk #[])) (some true) (P.cond (P.seq r_1 (ByteArray.mk #[])) (some true) (P.cond (P.ieq x.snd.snd.fst x.snd.snd.snd) (some (P.beq (P.seq r r_1) (P.ieq x.snd.fst x.snd.snd.snd))) (some (P.beq (P.seq r r_1) false))))) (some false)) none)))) none)))) (P.cond (P.ieq ((1 : Int)) ((2 : Int))) (P.cond (P.ieq ((2 : Int)) ((0 : Int))) (P.cond (P.ieq ((3 : Int)) ((0 : Int))) (P.bind (family_Text k (x.snd.snd.fst, x.snd.snd.fst)) fun (r : ByteArray) => P.bind (family_Text k (x.fst, x.fst)) fun (r_1 : ByteArray) => P.bind (law26_fixed k PUnit.unit) fun (r_2 : Bool) => P.cond r_2 (P.cond (P.seq r (ByteArray.mk #[])) (some true) (P.cond (P.seq r_1 (ByteArray.mk #[])) (some true) (P.cond (P.ieq x.snd.snd.fst x.fst) (some (P.beq (P.seq r r_1) (P.ieq x.snd.snd.fst x.fst))) (some (P.beq (P.seq r r_1) false))))) (some false)) (P.cond (P.ieq ((3 : Int)) ((1 : Int))) (P.bind (family_Text k (x.snd.snd.fst, x.snd.snd.fst)) fun (r : ByteArray) => P.bind (family_Text k (x.fst, x.snd.fst)) fun (r_1 : ByteArray) => P.bind (law26_fixed k PUnit.unit) fun (r_2 : Bool) => P.cond r_2 (P.cond (P.seq r (ByteArray.mk #[])) (some true) (P.cond (P.seq r_1 (ByteArray.mk #[])) (some true) (P.cond (P.ieq x.snd.snd.fst x.fst) (some (P.beq (P.seq r r_1) (P.ieq x.snd.snd.fst x.snd.fst))) (some (P.beq (P.seq r r_1) false))))) (some false)) (P.cond (P.ieq ((3 : Int)) ((2 : Int))) (P.bind (family_Text k (x.snd.snd.fst, x.snd.snd.fst)) fun (r : ByteArray) => P.bind (family_Text k (x.fst, x.snd.snd.fst)) fun (r_1 : ByteArray) => P.bind (law26_fixed k PUnit.unit) fun (r_2 : Bool) => P.cond r_2 (P.cond (P.seq r (ByteArray.mk #[])) (some true) (P.cond (P.seq r_1 (ByteArray.mk #[])) (some true) (P.cond (P.ieq x.snd.snd.fst x.fst) (some (P.beq (P.seq r r_1) (P.ieq x.snd.snd.fst x.snd.snd.fst))) (some (P.beq (P.seq r r_1) false))))) (some false)) (P.cond (P.ieq ((3 : Int)) ((3 : Int))) (P.bind (family_Text k (x.snd.snd.fst, x.snd.snd.fst)) fun (r : ByteArray) => P.bind (family_Text k (x.fst, x.snd.snd.snd)) fun (r_1 : ByteArray) => P.bind (law26_fixed k PUnit.unit) fun (r_2 : Bool) => P.cond r_2 (P.cond (P.seq r (ByteArray.mk #[])) (some true) (P.cond (P.seq r_1 (ByteArray.mk #[])) (some true) (P.cond (P.ieq x.snd.snd.fst x.fst) (some (P.beq (P.seq r r_1) (P.ieq x.snd.snd.fst x.snd.snd.snd))) (some (P.beq (P.seq r r_1) false))))) (some false)) none)))) (P.cond (P.ieq ((2 : Int)) ((1 : Int))) (P.cond (P.ieq ((3 : Int)) ((0 : Int))) (P.bind (family_Text k (x.snd.snd.fst, x.snd.snd.fst)) fun (r : ByteArray) => P.bind (family_Text k (x.snd.fst, x.fst)) fun (r_1 : ByteArray) => P.bind (law26_fixed k PUnit.unit) fun (r_2 : Bool) => P.cond r_2 (P.cond (P.seq r (ByteArray.mk #[])) (some true) (P.cond (P.seq r_1 (ByteArray.mk #[])) (some true) (P.cond (P.ieq x.snd.snd.fst x.snd.fst) (some (P.beq (P.seq r r_1) (P.ieq x.snd.snd.fst x.fst))) (some (P.beq (P.seq r r_1) false))))) (some false)) (P.cond (P.ieq ((3 : Int)) ((1 : Int))) (P.bind (family_Text k (x.snd.snd.fst, x.snd.snd.fst)) fun (r : ByteArray) => P.bind (family_Text k (x.snd.fst, x.snd.fst)) fun (r_1 : ByteArray) => P.bind (law26_fixed k PUnit.unit) fun (r_2 : Bool) => P.cond r_2 (P.cond (P.seq r (ByteArray.mk #[])) (some true) (P.cond (P.seq r_1 (ByteArray.mk #[])) (some true) (P.cond (P.ieq x.snd.snd.fst x.snd.fst) (some (P.beq (P.seq r r_1) (P.ieq x.snd.snd.fst x.snd.fst))) (some (P.beq (P.seq r r_1) false))))) (some false)) (P.cond (P.ieq ((3 : Int)) ((2 : Int))) (P.bind (family_Text k (x.snd.snd.fst, x.snd.snd.fst)) fun (r : ByteArray) => P.bind (family_Text k (x.snd.fst, x.snd.snd.fst)) fun (r_1 : ByteArray) => P.bind (law26_fixed k PUnit.unit) fun (r_2 : Bool) => P.cond r_2 (P.cond (P.seq r (ByteArray.mk #[])) (some true) (P.cond (P.seq r_1 (ByteArray.mk #[])) (some true) (P.cond (P.ieq x.snd.snd.fst x.snd.fst) (some (P.beq (P.seq r r_1) (P.ieq x.snd.snd.fst x.snd.snd.fst))) (some (P.beq (P.seq r r_1) false))))) (some false)) (P.cond (P.ieq ((3 : Int)) ((3 : Int))) (P.bind (family_Text k (x.snd.snd.fst, x.snd.snd.fst)) fun (r : ByteArray) => P.bind (family_Text k (x.snd.fst, x.snd.snd.snd)) fun (r_1 : ByteArray) => P.bind (law26_fixed k PUnit.unit) fun (r_2 : Bool) => P.cond r_2 (P.cond (P.seq r (ByteArray.mk #[])) (some true) (P.cond (P.seq r_1 (ByteArray.mk #[])) (some true) (P.cond (P.ieq x.snd.snd.fst x.snd.fst) (some (P.beq (P.seq r r_1) (P.ieq x.snd.snd.fst x.snd.snd.snd))) (some (P.beq (P.seq r r_1) false))))) (some false)) none)))) (P.cond (P.ieq ((2 : Int)) ((2 : Int))) (P.cond (P.ieq ((3 : Int)) ((0 : Int))) (P.bind (family_Text k (x.snd.snd.fst, x.snd.snd.fst)) fun (r : ByteArray) => P.bind (family_Text k (x.snd.snd.fst, x.fst)) fun (r_1 : ByteArray) => P.bind (law26_fixed k PUnit.unit) fun (r_2 : Bool) => P.cond r_2 (P.cond (P.seq r (ByteArray.mk #[])) (some true) (P.cond (P.seq r_1 (ByteArray.mk #[])) (some true) (P.cond (P.ieq x.snd.snd.fst x.snd.snd.fst) (some (P.beq (P.seq r r_1) (P.ieq x.snd.snd.fst x.fst))) (some (P.beq (P.seq r r_1) false))))) (some false)) (P.cond (P.ieq ((3 : Int)) ((1 : Int))) (P.bind (family_Text k (x.snd.snd.fst, x.snd.snd.fst)) fun (r : ByteArray) => P.bind (family_Text k (x.snd.snd.fst, x.snd.fst)) fun (r_1 : ByteArray) => P.bind (law26_fixed k PUnit.unit) fun (r_2 : Bool) => P.cond r_2 (P.cond (P.seq r (ByteArray.mk #[])) (some true) (P.cond (P.seq r_1 (ByteArray.mk #[])) (some true) (P.cond (P.ieq x.snd.snd.fst x.snd.snd.fst) (some (P.beq (P.seq r r_1) (P.ieq x.snd.snd.fst x.snd.fst))) (some (P.beq (P.seq r r_1) false))))) (some false)) (P.cond (P.ieq ((3 : Int)) ((2 : Int))) (P.bind (family_Text k (x.snd.snd.fst, x.snd.snd.fst)) fun (r : ByteArray) => P.bind (family_Text k (x.snd.snd.fst, x.snd.snd.fst)) fun (r_1 : ByteArray) => P.bind (law26_fixed k PUnit.unit) fun (r_2 : Bool) => P.cond r_2 (P.cond (P.seq r (ByteArray.mk #[])) (some true) (P.cond (P.seq r_1 (ByteArray.mk #[])) (some true) (P.cond (P.ieq x.snd.snd.fst x.snd.snd.fst) (some (P.beq (P.seq r r_1) (P.ieq x.snd.snd.fst x.snd.snd.fst))) (some (P.beq (P.seq r r_1) false))))) (some false)) (P.cond (P.ieq ((3 : Int)) ((3 : Int))) (P.bind (family_Text k (x.snd.snd.fst, x.snd.snd.fst)) fun (r : ByteArray) => P.bind (family_Text k (x.snd.snd.fst, x.snd.snd.snd)) fun (r_1 : ByteArray) => P.bind (law26_fixed k PUnit.unit) fun (r_2 : Bool) => P.cond r_2 (P.cond (P.seq r (ByteArray.mk #[])) (some true) (P.cond (P.seq r_1 (ByteArray.mk #[])) (some true) (P.cond (P.ieq x.snd.snd.fst x.snd.snd.fst) (some (P.beq (P.seq r r_1) (P.ieq x.snd.snd.fst x.snd.snd.snd))) (some (P.beq (P.seq r r_1) false))))) (some false)) none)))) (P.cond (P.ieq ((2 : Int)) ((3 : Int))) (P.cond (P.ieq ((3 : Int)) ((0 : Int))) (P.bind (family_Text k (x.snd.snd.fst, x.snd.snd.fst)) fun (r : ByteArray) => P.bind (family_Text k (x.snd.snd.snd, x.fst)) fun (r_1 : ByteArray) => P.bind (law26_fixed k PUnit.unit) fun (r_2 : Bool) => P.cond r_2 (P.cond (P.seq r (ByteArray.mk #[])) (some true) (P.cond (P.seq r_1 (ByteArray.mk #[])) (some true) (P.cond (P.ieq x.snd.snd.fst x.snd.snd.snd) (some (P.beq (P.seq r r_1) (P.ieq x.snd.snd.fst x.fst))) (some (P.beq (P.seq r r_1) false))))) (some false)) (P.cond (P.ieq ((3 : Int)) ((1 : Int))) (P.bind (family_Text k (x.snd.snd.fst, x.snd.snd.fst)) fun (r : ByteArray) => P.bind (family_Text k (x.snd.snd.snd, x.snd.fst)) fun (r_1 : ByteArray) => P.bind (law26_fixed k PUnit.unit) fun (r_2 : Bool) => P.cond r_2 (P.cond (P.seq r (ByteArray.mk #[])) (some true) (P.cond (P.seq r_1 (ByteArray.mk #[])) (some true) (P.cond (P.ieq x.snd.snd.fst x.snd.snd.snd) (some (P.beq (P.seq r r_1) (P.ieq x.snd.snd.fst x.snd.fst))) (some (P.beq (P.seq r r_1) false))))) (some false)) (P.cond (P.ieq ((3 : Int)) ((2 : Int))) (P.bind (family_Text k (x.snd.snd.fst, x.snd.snd.fst)) fun (r : ByteArray) => P.bind (family_Text k (x.snd.snd.snd, x.snd.snd.fst)) fun (r_1 : ByteArray) => P.bind (law26_fixed k PUnit.unit) fun (r_2 : Bool) => P.cond r_2 (P.cond (P.seq r (ByteArray.mk #[])) (some true) (P.cond (P.seq r_1 (ByteArray.mk #[])) (some true) (P.cond (P.ieq x.snd.snd.fst x.snd.snd.snd) (some (P.beq (P.seq r r_1) (P.ieq x.snd.snd.fst x.snd.snd.fst))) (some (P.beq (P.seq r r_1) false))))) (some false)) (P.cond (P.ieq ((3 : Int)) ((3 : Int))) (P.bind (family_Text k (x.snd.snd.fst, x.snd.snd.fst)) fun (r : ByteArray) => P.bind (family_Text k (x.snd.snd.snd, x.snd.snd.snd)) fun (r_1 : ByteArray) => P.bind (law26_fixed k PUnit.unit) fun (r_2 : Bool) => P.cond r_2 (P.cond (P.seq r (ByteArray.mk #[])) (some true) (P.cond (P.seq r_1 (ByteArray.mk #[])) (some true) (P.cond (P.ieq x.snd.snd.fst x.snd.snd.snd) (some (P.beq (P.seq r r_1) (P.ieq x.snd.snd.fst x.snd.snd.snd))) (some (P.beq (P.seq r r_1) false))))) (some false)) none)))) none)))) (P.cond (P.ieq ((1 : Int)) ((3 : Int))) (P.cond (P.ieq ((2 : Int)) ((0 : Int))) (P.cond (P.ieq ((3 : Int)) ((0 : Int))) (P.bind (family_Text k (x.snd.snd.fst, x.snd.snd.snd)) fun (r : ByteArray) => P.bind (family_Text k (x.fst, x.fst)) fun (r_1 : ByteArray) => P.bind (law26_fixed k PUnit.unit) fun (r_2 : Bool) => P.cond r_2 (P.cond (P.seq r (ByteArray.mk #[])) (some true) (P.cond (P.seq r_1 (ByteArray.mk #[])) (some true) (P.cond (P.ieq x.snd.snd.fst x.fst) (some (P.beq (P.seq r r_1) (P.ieq x.snd.snd.snd x.fst))) (some (P.beq (P.seq r r_1) false))))) (some false)) (P.cond (P.ieq ((3 : Int)) ((1 : Int))) (P.bind (family_Text k (x.snd.snd.fst, x.snd.snd.snd)) fun (r : ByteArray) => P.bind (family_Text k (x.fst, x.snd.fst)) fun (r_1 : ByteArray) => P.bind (law26_fixed k PUnit.unit) fun (r_2 : Bool) => P.cond r_2 (P.cond (P.seq r (ByteArray.mk #[])) (some true) (P.cond (P.seq r_1 (ByteArray.mk #[])) (some true) (P.cond (P.ieq x.snd.snd.fst x.fst) (some (P.beq (P.seq r r_1) (P.ieq x.snd.snd.snd x.snd.fst))) (some (P.beq (P.seq r r_1) false))))) (some false)) (P.cond (P.ieq ((3 : Int)) ((2 : Int))) (P.bind (family_Text k (x.snd.snd.fst, x.snd.snd.snd)) fun (r : ByteArray) => P.bind (family_Text k (x.fst, x.snd.snd.fst)) fun (r_1 : ByteArray) => P.bind (law26_fixed k PUnit.unit) fun (r_2 : Bool) => P.cond r_2 (P.cond (P.seq r (ByteArray.mk #[])) (some true) (P.cond (P.seq r_1 (ByteArray.mk #[])) (some true) (P.cond (P.ieq x.snd.snd.fst x.fst) (some (P.beq (P.seq r r_1) (P.ieq x.snd.snd.snd x.snd.snd.fst))) (some (P.beq (P.seq r r_1) false))))) (some false)) (P.cond (P.ieq ((3 : Int)) ((3 : Int))) (P.bind (family_Text k (x.snd.snd.fst, x.snd.snd.snd)) fun (r : ByteArray) => P.bind (family_Text k (x.fst, x.snd.snd.snd)) fun (r_1 : ByteArray) => P.bind (law26_fixed k PUnit.unit) fun (r_2 : Bool) => P.cond r_2 (P.cond (P.seq r (ByteArray.mk #[])) (some true) (P.cond (P.seq r_1 (ByteArray.mk #[])) (some true) (P.cond (P.ieq x.snd.snd.fst x.fst) (some (P.beq (P.seq r r_1) (P.ieq x.snd.snd.snd x.snd.snd.snd))) (some (P.beq (P.seq r r_1) false))))) (some false)) none)))) (P.cond (P.ieq ((2 : Int)) ((1 : Int))) (P.cond (P.ieq ((3 : Int)) ((0 : Int))) (P.bind (family_Text k (x.snd.snd.fst, x.snd.snd.snd)) fun (r : ByteArray) => P.bind (family_Text k (x.snd.fst, x.fst)) fun (r_1 : ByteArray) => P.bind (law26_fixed k PUnit.unit) fun (r_2 : Bool) => P.cond r_2 (P.cond (P.seq r (ByteArray.mk #[])) (some true) (P.cond (P.seq r_1 (ByteArray.mk #[])) (some true) (P.cond (P.ieq x.snd.snd.fst x.snd.fst) (some (P.beq (P.seq r r_1) (P.ieq x.snd.snd.snd x.fst))) (some (P.beq (P.seq r r_1) false))))) (some false)) (P.cond (P.ieq ((3 : Int)) ((1 : Int))) (P.bind (family_Text k (x.snd.snd.fst, x.snd.snd.snd)) fun (r : ByteArray) => P.bind (family_Text k (x.snd.fst, x.snd.fst)) fun (r_1 : ByteArray) => P.bind (law26_fixed k PUnit.unit) fun (r_2 : Bool) => P.cond r_2 (P.cond (P.seq r (ByteArray.mk #[])) (some true) (P.cond (P.seq r_1 (ByteArray.mk #[])) (some true) (P.cond (P.ieq x.snd.snd.fst x.snd.fst) (some (P.beq (P.seq r r_1) (P.ieq x.snd.snd.snd x.snd.fst))) (some (P.beq (P.seq r r_1) false))))) (some false)) (P.cond (P.ieq ((3 : Int)) ((2 : Int))) (P.bind (family_Text k (x.snd.snd.fst, x.snd.snd.snd)) fun (r : ByteArray) => P.bind (family_Text k (x.snd.fst, x.snd.snd.fst)) fun (r_1 : ByteArray) => P.bind (law26_fixed k PUnit.unit) fun (r_2 : Bool) => P.cond r_2 (P.cond (P.seq r (ByteArray.mk #[])) (some true) (P.cond (P.seq r_1 (ByteArray.mk #[])) (some true) (P.cond (P.ieq x.snd.snd.fst x.snd.fst) (some (P.beq (P.seq r r_1) (P.ieq x.snd.snd.snd x.snd.snd.fst))) (some (P.beq (P.seq r r_1) false))))) (some false)) (P.cond (P.ieq ((3 : Int)) ((3 : Int))) (P.bind (family_Text k (x.snd.snd.fst, x.snd.snd.snd)) fun (r : ByteArray) => P.bind (family_Text k (x.snd.fst, x.snd.snd.snd)) fun (r_1 : ByteArray) => P.bind (law26_fixed k PUnit.unit) fun (r_2 : Bool) => P.cond r_2 (P.cond (P.seq r (ByteArray.mk #[])) (some true) (P.cond (P.seq r_1 (ByteArray.mk #[])) (some true) (P.cond (P.ieq x.snd.snd.fst x.snd.fst) (some (P.beq (P.seq r r_1) (P.ieq x.snd.snd.snd x.snd.snd.snd))) (some (P.beq (P.seq r r_1) false))))) (some false)) none)))) (P.cond (P.ieq ((2 : Int)) ((2 : Int))) (P.cond (P.ieq ((3 : Int)) ((0 : Int))) (P.bind (family_Text k (x.snd.snd.fst, x.snd.snd.snd)) fun (r : ByteArray) => P.bind (family_Text k (x.snd.snd.fst, x.fst)) fun (r_1 : ByteArray) => P.bind (law26_fixed k PUnit.unit) fun (r_2 : Bool) => P.cond r_2 (P.cond (P.seq r (ByteArray.mk #[])) (some true) (P.cond (P.seq r_1 (ByteArray.mk #[])) (some true) (P.cond (P.ieq x.snd.snd.fst x.snd.snd.fst) (some (P.beq (P.seq r r_1) (P.ieq x.snd.snd.snd x.fst))) (some (P.beq (P.seq r r_1) false))))) (some false)) (P.cond (P.ieq ((3 : Int)) ((1 : Int))) (P.bind (family_Text k (x.snd.snd.fst, x.snd.snd.snd)) fun (r : ByteArray) => P.bind (family_Text k (x.snd.snd.fst, x.snd.fst)) fun (r_1 : ByteArray) => P.bind (law26_fixed k PUnit.unit) fun (r_2 : Bool) => P.cond r_2 (P.cond (P.seq r (ByteArray.mk #[])) (some true) (P.cond (P.seq r_1 (ByteArray.mk #[])) (some true) (P.cond (P.ieq x.snd.snd.fst x.snd.snd.fst) (some (P.beq (P.seq r r_1) (P.ieq x.snd.snd.snd x.snd.fst))) (some (P.beq (P.seq r r_1) false))))) (some false)) (P.cond (P.ieq ((3 : Int)) ((2 : Int))) (P.bind (family_Text k (x.snd.snd.fst, x.snd.snd.snd)) fun (r : ByteArray) => P.bind (family_Text k (x.snd.snd.fst, x.snd.snd.fst)) fun (r_1 : ByteArray) => P.bind (law26_fixed k PUnit.unit) fun (r_2 : Bool) => P.cond r_2 (P.cond (P.seq r (ByteArray.mk #[])) (some true) (P.cond (P.seq r_1 (ByteArray.mk #[])) (some true) (P.cond (P.ieq x.snd.snd.fst x.snd.snd.fst) (some (P.beq (P.seq r r_1) (P.ieq x.snd.snd.snd x.snd.snd.fst))) (some (P.beq (P.seq r r_1) false))))) (some false)) (P.cond (P.ieq ((3 : Int)) ((3 : Int))) (P.bind (family_Text k (x.snd.snd.fst, x.snd.snd.snd)) fun (r : ByteArray) => P.bind (family_Text k (x.snd.snd.fst, x.snd.snd.snd)) fun (r_1 : ByteArray) => P.bind (law26_fixed k PUnit.unit) fun (r_2 : Bool) => P.cond r_2 (P.cond (P.seq r (ByteArray.mk #[])) (some true) (P.cond (P.seq r_1 (ByteArray.mk #[])) (some true) (P.cond (P.ieq x.snd.snd.fst x.snd.snd.fst) (some (P.beq (P.seq r r_1) (P.ieq x.snd.snd.snd x.snd.snd.snd))) (some (P.beq (P.seq r r_1) false))))) (some false)) none)))) (P.cond (P.ieq ((2 : Int)) ((3 : Int))) (P.cond (P.ieq ((3 : Int)) ((0 : Int))) (P.bind (family_Text k (x.snd.snd.fst, x.snd.snd.snd)) fun (r : ByteArray) => P.bind (family_Text k (x.snd.snd.snd, x.fst)) fun (r_1 : ByteArray) => P.bind (law26_fixed k PUnit.unit) fun (r_2 : Bool) => P.cond r_2 (P.cond (P.seq r (ByteArray.mk #[])) (some true) (P.cond (P.seq r_1 (ByteArray.mk #[])) (some true) (P.cond (P.ieq x.snd.snd.fst x.snd.snd.snd) (some (P.beq (P.seq r r_1) (P.ieq x.snd.snd.snd x.fst))) (some (P.beq (P.seq r r_1) false))))) (some false)) (P.cond (P.ieq ((3 : Int)) ((1 : Int))) (P.bind (family_Text k (x.snd.snd.fst, x.snd.snd.snd)) fun (r : ByteArray) => P.bind (family_Text k (x.snd.snd.snd, x.snd.fst)) fun (r_1 : ByteArray) => P.bind (law26_fixed k PUnit.unit) fun (r_2 : Bool) => P.cond r_2 (P.cond (P.seq r (ByteArray.mk #[])) (some true) (P.cond (P.seq r_1 (ByteArray.mk #[])) (some true) (P.cond (P.ieq x.snd.snd.fst x.snd.snd.snd) (some (P.beq (P.seq r r_1) (P.ieq x.snd.snd.snd x.snd.fst))) (some (P.beq (P.seq r r_1) false))))) (some false)) (P.cond (P.ieq ((3 : Int)) ((2 : Int))) (P.bind (family_Text k (x.snd.snd.fst, x.snd.snd.snd)) fun (r : ByteArray) => P.bind (family_Text k (x.snd.snd.snd, x.snd.snd.fst)) fun (r_1 : ByteArray) => P.bind (law26_fixed k PUnit.unit) fun (r_2 : Bool) => P.cond r_2 (P.cond (P.seq r (ByteArray.mk #[])) (some true) (P.cond (P.seq r_1 (ByteArray.mk #[])) (some true) (P.cond (P.ieq x.snd.snd.fst x.snd.snd.snd) (some (P.beq (P.seq r r_1) (P.ieq x.snd.snd.snd x.snd.snd.fst))) (some (P.beq (P.seq r r_1) false))))) (some false)) (P.cond (P.ieq ((3 : Int)) ((3 : Int))) (P.bind (family_Text k (x.snd.snd.fst, x.snd.snd.snd)) fun (r : ByteArray) => P.bind (family_Text k (x.snd.snd.snd, x.snd.snd.snd)) fun (r_1 : ByteArray) => P.bind (law26_fixed k PUnit.unit) fun (r_2 : Bool) => P.cond r_2 (P.cond (P.seq r (ByteArray.mk #[])) (some true) (P.cond (P.seq r_1 (ByteArray.mk #[])) (some true) (P.cond (P.ieq x.snd.snd.fst x.snd.snd.snd) (some (P.beq (P.seq r r_1) (P.ieq x.snd.snd.snd x.snd.snd.snd))) (some (P.beq (P.seq r r_1) false))))) (some false)) none)))) none)))) none)))) (P.cond (P.ieq ((0 : Int)) ((3 : Int))) (P.cond (P.ieq ((1 : Int)) ((0 : Int))) (P.cond (P.ieq ((2 : Int)) ((0 : Int))) (P.cond (P.ieq ((3 : Int)) ((0 : Int))) (P.bind (family_Text k (x.snd.snd.snd, x.fst)) fun (r : ByteArray) => P.bind (family_Text k (x.fst, x.fst)) fun (r_1 : ByteArray) => P.bind (law26_fixed k PUnit.unit) fun (r_2 : Bool) => P.cond r_2 (P.cond (P.seq r (ByteArray.mk #[])) (some true) (P.cond (P.seq r_1 (ByteArray.mk #[])) (some true) (P.cond (P.ieq x.snd.snd.snd x.fst) (some (P.beq (P.seq r r_1) (P.ieq x.fst x.fst))) (some (P.beq (P.seq r r_1) false))))) (some false)) (P.cond (P.ieq ((3 : Int)) ((1 : Int))) (P.bind (family_Text k (x.snd.snd.snd, x.fst)) fun (r : ByteArray) => P.bind (family_Text k (x.fst, x.snd.fst)) fun (r_1 : ByteArray) => P.bind (law26_fixed k PUnit.unit) fun (r_2 : Bool) => P.cond r_2 (P.cond (P.seq r (ByteArray.mk #[])) (some true) (P.cond (P.seq r_1 (ByteArray.mk #[])) (some true) (P.cond (P.ieq x.snd.snd.snd x.fst) (some (P.beq (P.seq r r_1) (P.ieq x.fst x.snd.fst))) (some (P.beq (P.seq r r_1) false))))) (some false)) (P.cond (P.ieq ((3 : Int)) ((2 : Int))) (P.bind (family_Text k (x.snd.snd.snd, x.fst)) fun (r : ByteArray) => P.bind (family_Text k (x.fst, x.snd.snd.fst)) fun (r_1 : ByteArray) => P.bind (law26_fixed k PUnit.unit) fun (r_2 : Bool) => P.cond r_2 (P.cond (P.seq r (ByteArray.mk #[])) (some true) (P.cond (P.seq r_1 (ByteArray.mk #[])) (some true) (P.cond (P.ieq x.snd.snd.snd x.fst) (some (P.beq (P.seq r r_1) (P.ieq x.fst x.snd.snd.fst))) (some (P.beq (P.seq r r_1) false))))) (some false)) (P.cond (P.ieq ((3 : Int)) ((3 : Int))) (P.bind (family_Text k (x.snd.snd.snd, x.fst)) fun (r : ByteArray) => P.bind (family_Text k (x.fst, x.snd.snd.snd)) fun (r_1 : ByteArray) => P.bind (law26_fixed k PUnit.unit) fun (r_2 : Bool) => P.cond r_2 (P.cond (P.seq r (ByteArray.mk #[])) (some true) (P.cond (P.seq r_1 (ByteArray.mk #[])) (some true) (P.cond (P.ieq x.snd.snd.snd x.fst) (some (P.beq (P.seq r r_1) (P.ieq x.fst x.snd.snd.snd))) (some (P.beq (P.seq r r_1) false))))) (some false)) none)))) (P.cond (P.ieq ((2 : Int)) ((1 : Int))) (P.cond (P.ieq ((3 : Int)) ((0 : Int))) (P.bind (family_Text k (x.snd.snd.snd, x.fst)) fun (r : ByteArray) => P.bind (family_Text k (x.snd.fst, x.fst)) fun (r_1 : ByteArray) => P.bind (law26_fixed k PUnit.unit) fun (r_2 : Bool) => P.cond r_2 (P.cond (P.seq r (ByteArray.mk #[])) (some true) (P.cond (P.seq r_1 (ByteArray.mk #[])) (some true) (P.cond (P.ieq x.snd.snd.snd x.snd.fst) (some (P.beq (P.seq r r_1) (P.ieq x.fst x.fst))) (some (P.beq (P.seq r r_1) false))))) (some false)) (P.cond (P.ieq ((3 : Int)) ((1 : Int))) (P.bind (family_Text k (x.snd.snd.snd, x.fst)) fun (r : ByteArray) => P.bind (family_Text k (x.snd.fst, x.snd.fst)) fun (r_1 : ByteArray) => P.bind (law26_fixed k PUnit.unit) fun (r_2 : Bool) => P.cond r_2 (P.cond (P.seq r (ByteArray.mk #[])) (some true) (P.cond (P.seq r_1 (ByteArray.mk #[])) (some true) (P.cond (P.ieq x.snd.snd.snd x.snd.fst) (some (P.beq (P.seq r r_1) (P.ieq x.fst x.snd.fst))) (some (P.beq (P.seq r r_1) false))))) (some false)) (P.cond (P.ieq ((3 : Int)) ((2 : Int))) (P.bind (family_Text k (x.snd.snd.snd, x.fst)) fun (r : ByteArray) => P.bind (family_Text k (x.snd.fst, x.snd.snd.fst)) fun (r_1 : ByteArray) => P.bind (law26_fixed k PUnit.unit) fun (r_2 : Bool) => P.cond r_2 (P.cond (P.seq r (ByteArray.mk #[])) (some true) (P.cond (P.seq r_1 (ByteArray.mk #[])) (some true) (P.cond (P.ieq x.snd.snd.snd x.snd.fst) (some (P.beq (P.seq r r_1) (P.ieq x.fst x.snd.snd.fst))) (some (P.beq (P.seq r r_1) false))))) (some false)) (P.cond (P.ieq ((3 : Int)) ((3 : Int))) (P.bind (family_Text k (x.snd.snd.snd, x.fst)) fun (r : ByteArray) => P.bind (family_Text k (x.snd.fst, x.snd.snd.snd)) fun (r_1 : ByteArray) => P.bind (law26_fixed k PUnit.unit) fun (r_2 : Bool) => P.cond r_2 (P.cond (P.seq r (ByteArray.mk #[])) (some true) (P.cond (P.seq r_1 (ByteArray.mk #[])) (some true) (P.cond (P.ieq x.snd.snd.snd x.snd.fst) (some (P.beq (P.seq r r_1) (P.ieq x.fst x.snd.snd.snd))) (some (P.beq (P.seq r r_1) false))))) (some false)) none)))) (P.cond (P.ieq ((2 : Int)) ((2 : Int))) (P.cond (P.ieq ((3 : Int)) ((0 : Int))) (P.bind (family_Text k (x.snd.snd.snd, x.fst)) fun (r : ByteArray) => P.bind (family_Text k (x.snd.snd.fst, x.fst)) fun (r_1 : ByteArray) => P.bind (law26_fixed k PUnit.unit) fun (r_2 : Bool) => P.cond r_2 (P.cond (P.seq r (ByteArray.mk #[])) (some true) (P.cond (P.seq r_1 (ByteArray.mk #[])) (some true) (P.cond (P.ieq x.snd.snd.snd x.snd.snd.fst) (some (P.beq (P.seq r r_1) (P.ieq x.fst x.fst))) (some (P.beq (P.seq r r_1) false))))) (some false)) (P.cond (P.ieq ((3 : Int)) ((1 : Int))) (P.bind (family_Text k (x.snd.snd.snd, x.fst)) fun (r : ByteArray) => P.bind (family_Text k (x.snd.snd.fst, x.snd.fst)) fun (r_1 : ByteArray) => P.bind (law26_fixed k PUnit.unit) fun (r_2 : Bool) => P.cond r_2 (P.cond (P.seq r (ByteArray.mk #[])) (some true) (P.cond (P.seq r_1 (ByteArray.mk #[])) (some true) (P.cond (P.ieq x.snd.snd.snd x.snd.snd.fst) (some (P.beq (P.seq r r_1) (P.ieq x.fst x.snd.fst))) (some (P.beq (P.seq r r_1) false))))) (some false)) (P.cond (P.ieq ((3 : Int)) ((2 : Int))) (P.bind (family_Text k (x.snd.snd.snd, x.fst)) fun (r : ByteArray) => P.bind (family_Text k (x.snd.snd.fst, x.snd.snd.fst)) fun (r_1 : ByteArray) => P.bind (law26_fixed k PUnit.unit) fun (r_2 : Bool) => P.cond r_2 (P.cond (P.seq r (ByteArray.mk #[])) (some true) (P.cond (P.seq r_1 (ByteArray.mk #[])) (some true) (P.cond (P.ieq x.snd.snd.snd x.snd.snd.fst) (some (P.beq (P.seq r r_1) (P.ieq x.fst x.snd.snd.fst))) (some (P.beq (P.seq r r_1) false))))) (some false)) (P.cond (P.ieq ((3 : Int)) ((3 : Int))) (P.bind (family_Text k (x.snd.snd.snd, x.fst)) fun (r : ByteArray) => P.bind (family_Text k (x.snd.snd.fst, x.snd.snd.snd)) fun (r_1 : ByteArray) => P.bind (law26_fixed k PUnit.unit) fun (r_2 : Bool) => P.cond r_2 (P.cond (P.seq r (ByteArray.mk #[])) (some true) (P.cond (P.seq r_1 (ByteArray.mk #[])) (some true) (P.cond (P.ieq x.snd.snd.snd x.snd.snd.fst) (some (P.beq (P.seq r r_1) (P.ieq x.fst x.snd.snd.snd))) (some (P.beq (P.seq r r_1) false))))) (some false)) none)))) (P.cond (P.ieq ((2 : Int)) ((3 : Int))) (P.cond (P.ieq ((3 : Int)) ((0 : Int))) (P.bind (family_Text k (x.snd.snd.snd, x.fst)) fun (r : ByteArray) => P.bind (family_Text k (x.snd.snd.snd, x.fst)) fun (r_1 : ByteArray) => P.bind (law26_fixed k PUnit.unit) fun (r_2 : Bool) => P.cond r_2 (P.cond (P.seq r (ByteArray.mk #[])) (some true) (P.cond (P.seq r_1 (ByteArray.mk #[])) (some true) (P.cond (P.ieq x.snd.snd.snd x.snd.snd.snd) (some (P.beq (P.seq r r_1) (P.ieq x.fst x.fst))) (some (P.beq (P.seq r r_1) false))))) (some false)) (P.cond (P.ieq ((3 : Int)) ((1 : Int))) (P.bind (family_Text k (x.snd.snd.snd, x.fst)) fun (r : ByteArray) => P.bind (family_Text k (x.snd.snd.snd, x.snd.fst)) fun (r_1 : ByteArray) => P.bind (law26_fixed k PUnit.unit) fun (r_2 : Bool) => P.cond r_2 (P.cond (P.seq r (ByteArray.mk #[])) (some true) (P.cond (P.seq r_1 (ByteArray.mk #[])) (some true) (P.cond (P.ieq x.snd.snd.snd x.snd.snd.snd) (some (P.beq (P.seq r r_1) (P.ieq x.fst x.snd.fst))) (some (P.beq (P.seq r r_1) false))))) (some false)) (P.cond (P.ieq ((3 : Int)) ((2 : Int))) (P.bind (family_Text k (x.snd.snd.snd, x.fst)) fun (r : ByteArray) => P.bind (family_Text k (x.snd.snd.snd, x.snd.snd.fst)) fun (r_1 : ByteArray) => P.bind (law26_fixed k PUnit.unit) fun (r_2 : Bool) => P.cond r_2 (P.cond (P.seq r (ByteArray.mk #[])) (some true) (P.cond (P.seq r_1 (ByteArray.mk #[])) (some true) (P.cond (P.ieq x.snd.snd.snd x.snd.snd.snd) (some (P.beq (P.seq r r_1) (P.ieq x.fst x.snd.snd.fst))) (some (P.beq (P.seq r r_1) false))))) (some false)) (P.cond (P.ieq ((3 : Int)) ((3 : Int))) (P.bind (family_Text k (x.snd.snd.snd, x.fst)) fun (r : ByteArray) => P.bind (family_Text k (x.snd.snd.snd, x.snd.snd.snd)) fun (r_1 : ByteArray) => P.bind (law26_fixed k PUnit.unit) fun (r_2 : Bool) => P.cond r_2 (P.cond (P.seq r (ByteArray.mk #[])) (some true) (P.cond (P.seq r_1 (ByteArray.mk #[])) (some true) (P.cond (P.ieq x.snd.snd.snd x.snd.snd.snd) (some (P.beq (P.seq r r_1) (P.ieq x.fst x.snd.snd.snd))) (some (P.beq (P.seq r r_1) false))))) (some false)) none)))) none)))) (P.cond (P.ieq ((1 : Int)) ((1 : Int))) (P.cond (P.ieq ((2 : Int)) ((0 : Int))) (P.cond (P.ieq ((3 : Int)) ((0 : Int))) (P.bind (family_Text k (x.snd.snd.snd, x.snd.fst)) fun (r : ByteArray) => P.bind (family_Text k (x.fst, x.fst)) fun (r_1 : ByteArray) => P.bind (law26_fixed k PUnit.unit) fun (r_2 : Bool) => P.cond r_2 (P.cond (P.seq r (ByteArray.mk #[])) (some true) (P.cond (P.seq r_1 (ByteArray.mk #[])) (some true) (P.cond (P.ieq x.snd.snd.snd x.fst) (some (P.beq (P.seq r r_1) (P.ieq x.snd.fst x.fst))) (some (P.beq (P.seq r r_1) false))))) (some false)) (P.cond (P.ieq ((3 : Int)) ((1 : Int))) (P.bind (family_Text k (x.snd.snd.snd, x.snd.fst)) fun (r : ByteArray) => P.bind (family_Text k (x.fst, x.snd.fst)) fun (r_1 : ByteArray) => P.bind (law26_fixed k PUnit.unit) fun (r_2 : Bool) => P.cond r_2 (P.cond (P.seq r (ByteArray.mk #[])) (some true) (P.cond (P.seq r_1 (ByteArray.mk #[])) (some true) (P.cond (P.ieq x.snd.snd.snd x.fst) (some (P.beq (P.seq r r_1) (P.ieq x.snd.fst x.snd.fst))) (some (P.beq (P.seq r r_1) false))))) (some false)) (P.cond (P.ieq ((3 : Int)) ((2 : Int))) (P.bind (family_Text k (x.snd.snd.snd, x.snd.fst)) fun (r : ByteArray) => P.bind (family_Text k (x.fst, x.snd.snd.fst)) fun (r_1 : ByteArray) => P.bind (law26_fixed k PUnit.unit) fun (r_2 : Bool) => P.cond r_2 (P.cond (P.seq r (ByteArray.mk #[])) (some true) (P.cond (P.seq r_1 (ByteArray.mk #[])) (some true) (P.cond (P.ieq x.snd.snd.snd x.fst) (some (P.beq (P.seq r r_1) (P.ieq x.snd.fst x.snd.snd.fst))) (some (P.beq (P.seq r r_1) false))))) (some false)) (P.cond (P.ieq ((3 : Int)) ((3 : Int))) (P.bind (family_Text k (x.snd.snd.snd, x.snd.fst)) fun (r : ByteArray) => P.bind (family_Text k (x.fst, x.snd.snd.snd)) fun (r_1 : ByteArray) => P.bind (law26_fixed k PUnit.unit) fun (r_2 : Bool) => P.cond r_2 (P.cond (P.seq r (ByteArray.mk #[])) (some true) (P.cond (P.seq r_1 (ByteArray.mk #[])) (some true) (P.cond (P.ieq x.snd.snd.snd x.fst) (some (P.beq (P.seq r r_1) (P.ieq x.snd.fst x.snd.snd.snd))) (some (P.beq (P.seq r r_1) false))))) (some false)) none)))) (P.cond (P.ieq ((2 : Int)) ((1 : Int))) (P.cond (P.ieq ((3 : Int)) ((0 : Int))) (P.bind (family_Text k (x.snd.snd.snd, x.snd.fst)) fun (r : ByteArray) => P.bind (family_Text k (x.snd.fst, x.fst)) fun (r_1 : ByteArray) => P.bind (law26_fixed k PUnit.unit) fun (r_2 : Bool) => P.cond r_2 (P.cond (P.seq r (ByteArray.mk #[])) (some true) (P.cond (P.seq r_1 (ByteArray.mk #[])) (some true) (P.cond (P.ieq x.snd.snd.snd x.snd.fst) (some (P.beq (P.seq r r_1) (P.ieq x.snd.fst x.fst))) (some (P.beq (P.seq r r_1) false))))) (some false)) (P.cond (P.ieq ((3 : Int)) ((1 : Int))) (P.bind (family_Text k (x.snd.snd.snd, x.snd.fst)) fun (r : ByteArray) => P.bind (family_Text k (x.snd.fst, x.snd.fst)) fun (r_1 : ByteArray) => P.bind (law26_fixed k PUnit.unit) fun (r_2 : Bool) => P.cond r_2 (P.cond (P.seq r (ByteArray.mk #[])) (some true) (P.cond (P.seq r_1 (ByteArray.mk #[])) (some true) (P.cond (P.ieq x.snd.snd.snd x.snd.fst) (some (P.beq (P.seq r r_1) (P.ieq x.snd.fst x.snd.fst))) (some (P.beq (P.seq r r_1) false))))) (some false)) (P.cond (P.ieq ((3 : Int)) ((2 : Int))) (P.bind (family_Text k (x.snd.snd.snd, x.snd.fst)) fun (r : ByteArray) => P.bind (family_Text k (x.snd.fst, x.snd.snd.fst)) fun (r_1 : ByteArray) => P.bind (law26_fixed k PUnit.unit) fun (r_2 : Bool) => P.cond r_2 (P.cond (P.seq r (ByteArray.mk #[])) (some true) (P.cond (P.seq r_1 (ByteArray.mk #[])) (some true) (P.cond (P.ieq x.snd.snd.snd x.snd.fst) (some (P.beq (P.seq r r_1) (P.ieq x.snd.fst x.snd.snd.fst))) (some (P.beq (P.seq r r_1) false))))) (some false)) (P.cond (P.ieq ((3 : Int)) ((3 : Int))) (P.bind (family_Text k (x.snd.snd.snd, x.snd.fst)) fun (r : ByteArray) => P.bind (family_Text k (x.snd.fst, x.snd.snd.snd)) fun (r_1 : ByteArray) => P.bind (law26_fixed k PUnit.unit) fun (r_2 : Bool) => P.cond r_2 (P.cond (P.seq r (ByteArray.mk #[])) (some true) (P.cond (P.seq r_1 (ByteArray.mk #[])) (some true) (P.cond (P.ieq x.snd.snd.snd x.snd.fst) (some (P.beq (P.seq r r_1) (P.ieq x.snd.fst x.snd.snd.snd))) (some (P.beq (P.seq r r_1) false))))) (some false)) none)))) (P.cond (P.ieq ((2 : Int)) ((2 : Int))) (P.cond (P.ieq ((3 : Int)) ((0 : Int))) (P.bind (family_Text k (x.snd.snd.snd, x.snd.fst)) fun (r : ByteArray) => P.bind (family_Text k (x.snd.snd.fst, x.fst)) fun (r_1 : ByteArray) => P.bind (law26_fixed k PUnit.unit) fun (r_2 : Bool) => P.cond r_2 (P.cond (P.seq r (ByteArray.mk #[])) (some true) (P.cond (P.seq r_1 (ByteArray.mk #[])) (some true) (P.cond (P.ieq x.snd.snd.snd x.snd.snd.fst) (some (P.beq (P.seq r r_1) (P.ieq x.snd.fst x.fst))) (some (P.beq (P.seq r r_1) false))))) (some false)) (P.cond (P.ieq ((3 : Int)) ((1 : Int))) (P.bind (family_Text k (x.snd.snd.snd, x.snd.fst)) fun (r : ByteArray) => P.bind (family_Text k (x.snd.snd.fst, x.snd.fst)) fun (r_1 : ByteArray) => P.bind (law26_fixed k PUnit.unit) fun (r_2 : Bool) => P.cond r_2 (P.cond (P.seq r (ByteArray.mk #[])) (some true) (P.cond (P.seq r_1 (ByteArray.mk #[])) (some true) (P.cond (P.ieq x.snd.snd.snd x.snd.snd.fst) (some (P.beq (P.seq r r_1) (P.ieq x.snd.fst x.snd.fst))) (some (P.beq (P.seq r r_1) false))))) (some false)) (P.cond (P.ieq ((3 : Int)) ((2 : Int))) (P.bind (family_Text k (x.snd.snd.snd, x.snd.fst)) fun (r : ByteArray) => P.bind (family_Text k (x.snd.snd.fst, x.snd.snd.fst)) fun (r_1 : ByteArray) => P.bind (law26_fixed k PUnit.unit) fun (r_2 : Bool) => P.cond r_2 (P.cond (P.seq r (ByteArray.mk #[])) (some true) (P.cond (P.seq r_1 (ByteArray.mk #[])) (some true) (P.cond (P.ieq x.snd.snd.snd x.snd.snd.fst) (some (P.beq (P.seq r r_1) (P.ieq x.snd.fst x.snd.snd.fst))) (some (P.beq (P.seq r r_1) false))))) (some false)) (P.cond (P.ieq ((3 : Int)) ((3 : Int))) (P.bind (family_Text k (x.snd.snd.snd, x.snd.fst)) fun (r : ByteArray) => P.bind (family_Text k (x.snd.snd.fst, x.snd.snd.snd)) fun (r_1 : ByteArray) => P.bind (law26_fixed k PUnit.unit) fun (r_2 : Bool) => P.cond r_2 (P.cond (P.seq r (ByteArray.mk #[])) (some true) (P.cond (P.seq r_1 (ByteArray.mk #[])) (some true) (P.cond (P.ieq x.snd.snd.snd x.snd.snd.fst) (some (P.beq (P.seq r r_1) (P.ieq x.snd.fst x.snd.snd.snd))) (some (P.beq (P.seq r r_1) false))))) (some false)) none)))) (P.cond (P.ieq ((2 : Int)) ((3 : Int))) (P.cond (P.ieq ((3 : Int)) ((0 : Int))) (P.bind (family_Text k (x.snd.snd.snd, x.snd.fst)) fun (r : ByteArray) => P.bind (family_Text k (x.snd.snd.snd, x.fst)) fun (r_1 : ByteArray) => P.bind (law26_fixed k PUnit.unit) fun (r_2 : Bool) => P.cond r_2 (P.cond (P.seq r (ByteArray.mk #[])) (some true) (P.cond (P.seq r_1 (ByteArray.mk #[])) (some true) (P.cond (P.ieq x.snd.snd.snd x.snd.snd.snd) (some (P.beq (P.seq r r_1) (P.ieq x.snd.fst x.fst))) (some (P.beq (P.seq r r_1) false))))) (some false)) (P.cond (P.ieq ((3 : Int)) ((1 : Int))) (P.bind (family_Text k (x.snd.snd.snd, x.snd.fst)) fun (r : ByteArray) => P.bind (family_Text k (x.snd.snd.snd, x.snd.fst)) fun (r_1 : ByteArray) => P.bind (law26_fixed k PUnit.unit) fun (r_2 : Bool) => P.cond r_2 (P.cond (P.seq r (ByteArray.mk #[])) (some true) (P.cond (P.seq r_1 (ByteArray.mk #[])) (some true) (P.cond (P.ieq x.snd.snd.snd x.snd.snd.snd) (some (P.beq (P.seq r r_1) (P.ieq x.snd.fst x.snd.fst))) (some (P.beq (P.seq r r_1) false))))) (some false)) (P.cond (P.ieq ((3 : Int)) ((2 : Int))) (P.bind (family_Text k (x.snd.snd.snd, x.snd.fst)) fun (r : ByteArray) => P.bind (family_Text k (x.snd.snd.snd, x.snd.snd.fst)) fun (r_1 : ByteArray) => P.bind (law26_fixed k PUnit.unit) fun (r_2 : Bool) => P.cond r_2 (P.cond (P.seq r (ByteArray.mk #[])) (some true) (P.cond (P.seq r_1 (ByteArray.mk #[])) (some true) (P.cond (P.ieq x.snd.snd.snd x.snd.snd.snd) (some (P.beq (P.seq r r_1) (P.ieq x.snd.fst x.snd.snd.fst))) (some (P.beq (P.seq r r_1) false))))) (some false)) (P.cond (P.ieq ((3 : Int)) ((3 : Int))) (P.bind (family_Text k (x.snd.snd.snd, x.snd.fst)) fun (r : ByteArray) => P.bind (family_Text k (x.snd.snd.snd, x.snd.snd.snd)) fun (r_1 : ByteArray) => P.bind (law26_fixed k PUnit.unit) fun (r_2 : Bool) => P.cond r_2 (P.cond (P.seq r (ByteArray.mk #[])) (some true) (P.cond (P.seq r_1 (ByteArray.mk #[])) (some true) (P.cond (P.ieq x.snd.snd.snd x.snd.snd.snd) (some (P.beq (P.seq r r_1) (P.ieq x.snd.fst x.snd.snd.snd))) (some (P.beq (P.seq r r_1) false))))) (some false)) none)))) none)))) (P.cond (P.ieq ((1 : Int)) ((2 : Int))) (P.cond (P.ieq ((2 : Int)) ((0 : Int))) (P.cond (P.ieq ((3 : Int)) ((0 : Int))) (P.bind (family_Text k (x.snd.snd.snd, x.snd.snd.fst)) fun (r : ByteArray) => P.bind (family_Text k (x.fst, x.fst)) fun (r_1 : ByteArray) => P.bind (law26_fixed k PUnit.unit) fun (r_2 : Bool) => P.cond r_2 (P.cond (P.seq r (ByteArray.mk #[])) (some true) (P.cond (P.seq r_1 (ByteArray.mk #[])) (some true) (P.cond (P.ieq x.snd.snd.snd x.fst) (some (P.beq (P.seq r r_1) (P.ieq x.snd.snd.fst x.fst))) (some (P.beq (P.seq r r_1) false))))) (some false)) (P.cond (P.ieq ((3 : Int)) ((1 : Int))) (P.bind (family_Text k (x.snd.snd.snd, x.snd.snd.fst)) fun (r : ByteArray) => P.bind (family_Text k (x.fst, x.snd.fst)) fun (r_1 : ByteArray) => P.bind (law26_fixed k PUnit.unit) fun (r_2 : Bool) => P.cond r_2 (P.cond (P.seq r (ByteArray.mk #[])) (some true) (P.cond (P.seq r_1 (ByteArray.mk #[])) (some true) (P.cond (P.ieq x.snd.snd.snd x.fst) (some (P.beq (P.seq r r_1) (P.ieq x.snd.snd.fst x.snd.fst))) (some (P.beq (P.seq r r_1) false))))) (some false)) (P.cond (P.ieq ((3 : Int)) ((2 : Int))) (P.bind (family_Text k (x.snd.snd.snd, x.snd.snd.fst)) fun (r : ByteArray) => P.bind (family_Text k (x.fst, x.snd.snd.fst)) fun (r_1 : ByteArray) => P.bind (law26_fixed k PUnit.unit) fun (r_2 : Bool) => P.cond r_2 (P.cond (P.seq r (ByteArray.mk #[])) (some true) (P.cond (P.seq r_1 (ByteArray.mk #[])) (some true) (P.cond (P.ieq x.snd.snd.snd x.fst) (some (P.beq (P.seq r r_1) (P.ieq x.snd.snd.fst x.snd.snd.fst))) (some (P.beq (P.seq r r_1) false))))) (some false)) (P.cond (P.ieq ((3 : Int)) ((3 : Int))) (P.bind (family_Text k (x.snd.snd.snd, x.snd.snd.fst)) fun (r : ByteArray) => P.bind (family_Text k (x.fst, x.snd.snd.snd)) fun (r_1 : ByteArray) => P.bind (law26_fixed k PUnit.unit) fun (r_2 : Bool) => P.cond r_2 (P.cond (P.seq r (ByteArray.mk #[])) (some true) (P.cond (P.seq r_1 (ByteArray.mk #[])) (some true) (P.cond (P.ieq x.snd.snd.snd x.fst) (some (P.beq (P.seq r r_1) (P.ieq x.snd.snd.fst x.snd.snd.snd))) (some (P.beq (P.seq r r_1) false))))) (some false)) none)))) (P.cond (P.ieq ((2 : Int)) ((1 : Int))) (P.cond (P.ieq ((3 : Int)) ((0 : Int))) (P.bind (family_Text k (x.snd.snd.snd, x.snd.snd.fst)) fun (r : ByteArray) => P.bind (family_Text k (x.snd.fst, x.fst)) fun (r_1 : ByteArray) => P.bind (law26_fixed k PUnit.unit) fun (r_2 : Bool) => P.cond r_2 (P.cond (P.seq r (ByteArray.mk #[])) (some true) (P.cond (P.seq r_1 (ByteArray.mk #[])) (some true) (P.cond (P.ieq x.snd.snd.snd x.snd.fst) (some (P.beq (P.seq r r_1) (P.ieq x.snd.snd.fst x.fst))) (some (P.beq (P.seq r r_1) false))))) (some false)) (P.cond (P.ieq ((3 : Int)) ((1 : Int))) (P.bind (family_Text k (x.snd.snd.snd, x.snd.snd.fst)) fun (r : ByteArray) => P.bind (family_Text k (x.snd.fst, x.snd.fst)) fun (r_1 : ByteArray) => P.bind (law26_fixed k PUnit.unit) fun (r_2 : Bool) => P.cond r_2 (P.cond (P.seq r (ByteArray.mk #[])) (some true) (P.cond (P.seq r_1 (ByteArray.mk #[])) (some true) (P.cond (P.ieq x.snd.snd.snd x.snd.fst) (some (P.beq (P.seq r r_1) (P.ieq x.snd.snd.fst x.snd.fst))) (some (P.beq (P.seq r r_1) false))))) (some false)) (P.cond (P.ieq ((3 : Int)) ((2 : Int))) (P.bind (family_Text k (x.snd.snd.snd, x.snd.snd.fst)) fun (r : ByteArray) => P.bind (family_Text k (x.snd.fst, x.snd.snd.fst)) fun (r_1 : ByteArray) => P.bind (law26_fixed k PUnit.unit) fun (r_2 : Bool) => P.cond r_2 (P.cond (P.seq r (ByteArray.mk #[])) (some true) (P.cond (P.seq r_1 (ByteArray.mk #[])) (some true) (P.cond (P.ieq x.snd.snd.snd x.snd.fst) (some (P.beq (P.seq r r_1) (P.ieq x.snd.snd.fst x.snd.snd.fst))) (some (P.beq (P.seq r r_1) false))))) (some false)) (P.cond (P.ieq ((3 : Int)) ((3 : Int))) (P.bind (family_Text k (x.snd.snd.snd, x.snd.snd.fst)) fun (r : ByteArray) => P.bind (family_Text k (x.snd.fst, x.snd.snd.snd)) fun (r_1 : ByteArray) => P.bind (law26_fixed k PUnit.unit) fun (r_2 : Bool) => P.cond r_2 (P.cond (P.seq r (ByteArray.mk #[])) (some true) (P.cond (P.seq r_1 (ByteArray.mk #[])) (some true) (P.cond (P.ieq x.snd.snd.snd x.snd.fst) (some (P.beq (P.seq r r_1) (P.ieq x.snd.snd.fst x.snd.snd.snd))) (some (P.beq (P.seq r r_1) false))))) (some false)) none)))) (P.cond (P.ieq ((2 : Int)) ((2 : Int))) (P.cond (P.ieq ((3 : Int)) ((0 : Int))) (P.bind (family_Text k (x.snd.snd.snd, x.snd.snd.fst)) fun (r : ByteArray) => P.bind (family_Text k (x.snd.snd.fst, x.fst)) fun (r_1 : ByteArray) => P.bind (law26_fixed k PUnit.unit) fun (r_2 : Bool) => P.cond r_2 (P.cond (P.seq r (ByteArray.mk #[])) (some true) (P.cond (P.seq r_1 (ByteArray.mk #[])) (some true) (P.cond (P.ieq x.snd.snd.snd x.snd.snd.fst) (some (P.beq (P.seq r r_1) (P.ieq x.snd.snd.fst x.fst))) (some (P.beq (P.seq r r_1) false))))) (some false)) (P.cond (P.ieq ((3 : Int)) ((1 : Int))) (P.bind (family_Text k (x.snd.snd.snd, x.snd.snd.fst)) fun (r : ByteArray) => P.bind (family_Text k (x.snd.snd.fst, x.snd.fst)) fun (r_1 : ByteArray) => P.bind (law26_fixed k PUnit.unit) fun (r_2 : Bool) => P.cond r_2 (P.cond (P.seq r (ByteArray.mk #[])) (some true) (P.cond (P.seq r_1 (ByteArray.mk #[])) (some true) (P.cond (P.ieq x.snd.snd.snd x.snd.snd.fst) (some (P.beq (P.seq r r_1) (P.ieq x.snd.snd.fst x.snd.fst))) (some (P.beq (P.seq r r_1) false))))) (some false)) (P.cond (P.ieq ((3 : Int)) ((2 : Int))) (P.bind (family_Text k (x.snd.snd.snd, x.snd.snd.fst)) fun (r : ByteArray) => P.bind (family_Text k (x.snd.snd.fst, x.snd.snd.fst)) fun (r_1 : ByteArray) => P.bind (law26_fixed k PUnit.unit) fun (r_2 : Bool) => P.cond r_2 (P.cond (P.seq r (ByteArray.mk #[])) (some true) (P.cond (P.seq r_1 (ByteArray.mk #[])) (some true) (P.cond (P.ieq x.snd.snd.snd x.snd.snd.fst) (some (P.beq (P.seq r r_1) (P.ieq x.snd.snd.fst x.snd.snd.fst))) (some (P.beq (P.seq r r_1) false))))) (some false)) (P.cond (P.ieq ((3 : Int)) ((3 : Int))) (P.bind (family_Text k (x.snd.snd.snd, x.snd.snd.fst)) fun (r : ByteArray) => P.bind (family_Text k (x.snd.snd.fst, x.snd.snd.snd)) fun (r_1 : ByteArray) => P.bind (law26_fixed k PUnit.unit) fun (r_2 : Bool) => P.cond r_2 (P.cond (P.seq r (ByteArray.mk #[])) (some true) (P.cond (P.seq r_1 (ByteArray.mk #[])) (some true) (P.cond (P.ieq x.snd.snd.snd x.snd.snd.fst) (some (P.beq (P.seq r r_1) (P.ieq x.snd.snd.fst x.snd.snd.snd))) (some (P.beq (P.seq r r_1) false))))) (some false)) none)))) (P.cond (P.ieq ((2 : Int)) ((3 : Int))) (P.cond (P.ieq ((3 : Int)) ((0 : Int))) (P.bind (family_Text k (x.snd.snd.snd, x.snd.snd.fst)) fun (r : ByteArray) => P.bind (family_Text k (x.snd.snd.snd, x.fst)) fun (r_1 : ByteArray) => P.bind (law26_fixed k PUnit.unit) fun (r_2 : Bool) => P.cond r_2 (P.cond (P.seq r (ByteArray.mk #[])) (some true) (P.cond (P.seq r_1 (ByteArray.mk #[])) (some true) (P.cond (P.ieq x.snd.snd.snd x.snd.snd.snd) (some (P.beq (P.seq r r_1) (P.ieq x.snd.snd.fst x.fst))) (some (P.beq (P.seq r r_1) false))))) (some false)) (P.cond (P.ieq ((3 : Int)) ((1 : Int))) (P.bind (family_Text k (x.snd.snd.snd, x.snd.snd.fst)) fun (r : ByteArray) => P.bind (family_Text k (x.snd.snd.snd, x.snd.fst)) fun (r_1 : ByteArray) => P.bind (law26_fixed k PUnit.unit) fun (r_2 : Bool) => P.cond r_2 (P.cond (P.seq r (ByteArray.mk #[])) (some true) (P.cond (P.seq r_1 (ByteArray.mk #[])) (some true) (P.cond (P.ieq x.snd.snd.snd x.snd.snd.snd) (some (P.beq (P.seq r r_1) (P.ieq x.snd.snd.fst x.snd.fst))) (some (P.beq (P.seq r r_1) false))))) (some false)) (P.cond (P.ieq ((3 : Int)) ((2 : Int))) (P.bind (family_Text k (x.snd.snd.snd, x.snd.snd.fst)) fun (r : ByteArray) => P.bind (family_Text k (x.snd.snd.snd, x.snd.snd.fst)) fun (r_1 : ByteArray) => P.bind (law26_fixed k PUnit.unit) fun (r_2 : Bool) => P.cond r_2 (P.cond (P.seq r (ByteArray.mk #[])) (some true) (P.cond (P.seq r_1 (ByteArray.mk #[])) (some true) (P.cond (P.ieq x.snd.snd.snd x.snd.snd.snd) (some (P.beq (P.seq r r_1) (P.ieq x.snd.snd.fst x.snd.snd.fst))) (some (P.beq (P.seq r r_1) false))))) (some false)) (P.cond (P.ieq ((3 : Int)) ((3 : Int))) (P.bind (family_Text k (x.snd.snd.snd, x.snd.snd.fst)) fun (r : ByteArray) => P.bind (family_Text k (x.snd.snd.snd, x.snd.snd.snd)) fun (r_1 : ByteArray) => P.bind (law26_fixed k PUnit.unit) fun (r_2 : Bool) => P.cond r_2 (P.cond (P.seq r (ByteArray.mk #[])) (some true) (P.cond (P.seq r_1 (ByteArray.mk #[])) (some true) (P.cond (P.ieq x.snd.snd.snd x.snd.snd.snd) (some (P.beq (P.seq r r_1) (P.ieq x.snd.snd.fst x.snd.snd.snd))) (some (P.beq (P.seq r r_1) false))))) (some false)) none)))) none)))) (P.cond (P.ieq ((1 : Int)) ((3 : Int))) (P.cond (P.ieq ((2 : Int)) ((0 : Int))) (P.cond (P.ieq ((3 : Int)) ((0 : Int))) (P.bind (family_Text k (x.snd.snd.snd, x.snd.snd.snd)) fun (r : ByteArray) => P.bind (family_Text k (x.fst, x.fst)) fun (r_1 : ByteArray) => P.bind (law26_fixed k PUnit.unit) fun (r_2 : Bool) => P.cond r_2 (P.cond (P.seq r (ByteArray.mk #[])) (some true) (P.cond (P.seq r_1 (ByteArray.mk #[])) (some true) (P.cond (P.ieq x.snd.snd.snd x.fst) (some (P.beq (P.seq r r_1) (P.ieq x.snd.snd.snd x.fst))) (some (P.beq (P.seq r r_1) false))))) (some false)) (P.cond (P.ieq ((3 : Int)) ((1 : Int))) (P.bind (family_Text k (x.snd.snd.snd, x.snd.snd.snd)) fun (r : ByteArray) => P.bind (family_Text k (x.fst, x.snd.fst)) fun (r_1 : ByteArray) => P.bind (law26_fixed k PUnit.unit) fun (r_2 : Bool) => P.cond r_2 (P.cond (P.seq r (ByteArray.mk #[])) (some true) (P.cond (P.seq r_1 (ByteArray.mk #[])) (some true) (P.cond (P.ieq x.snd.snd.snd x.fst) (some (P.beq (P.seq r r_1) (P.ieq x.snd.snd.snd x.snd.fst))) (some (P.beq (P.seq r r_1) false))))) (some false)) (P.cond (P.ieq ((3 : Int)) ((2 : Int))) (P.bind (family_Text k (x.snd.snd.snd, x.snd.snd.snd)) fun (r : ByteArray) => P.bind (family_Text k (x.fst, x.snd.snd.fst)) fun (r_1 : ByteArray) => P.bind (law26_fixed k PUnit.unit) fun (r_2 : Bool) => P.cond r_2 (P.cond (P.seq r (ByteArray.mk #[])) (some true) (P.cond (P.seq r_1 (ByteArray.mk #[])) (some true) (P.cond (P.ieq x.snd.snd.snd x.fst) (some (P.beq (P.seq r r_1) (P.ieq x.snd.snd.snd x.snd.snd.fst))) (some (P.beq (P.seq r r_1) false))))) (some false)) (P.cond (P.ieq ((3 : Int)) ((3 : Int))) (P.bind (family_Text k (x.snd.snd.snd, x.snd.snd.snd)) fun (r : ByteArray) => P.bind (family_Text k (x.fst, x.snd.snd.snd)) fun (r_1 : ByteArray) => P.bind (law26_fixed k PUnit.unit) fun (r_2 : Bool) => P.cond r_2 (P.cond (P.seq r (ByteArray.mk #[])) (some true) (P.cond (P.seq r_1 (ByteArray.mk #[])) (some true) (P.cond (P.ieq x.snd.snd.snd x.fst) (some (P.beq (P.seq r r_1) (P.ieq x.snd.snd.snd x.snd.snd.snd))) (some (P.beq (P.seq r r_1) false))))) (some false)) none)))) (P.cond (P.ieq ((2 : Int)) ((1 : Int))) (P.cond (P.ieq ((3 : Int)) ((0 : Int))) (P.bind (family_Text k (x.snd.snd.snd, x.snd.snd.snd)) fun (r : ByteArray) => P.bind (family_Text k (x.snd.fst, x.fst)) fun (r_1 : ByteArray) => P.bind (law26_fixed k PUnit.unit) fun (r_2 : Bool) => P.cond r_2 (P.cond (P.seq r (ByteArray.mk #[])) (some true) (P.cond (P.seq r_1 (ByteArray.mk #[])) (some true) (P.cond (P.ieq x.snd.snd.snd x.snd.fst) (some (P.beq (P.seq r r_1) (P.ieq x.snd.snd.snd x.fst))) (some (P.beq (P.seq r r_1) false))))) (some false)) (P.cond (P.ieq ((3 : Int)) ((1 : Int))) (P.bind (family_Text k (x.snd.snd.snd, x.snd.snd.snd)) fun (r : ByteArray) => P.bind (family_Text k (x.snd.fst, x.snd.fst)) fun (r_1 : ByteArray) => P.bind (law26_fixed k PUnit.unit) fun (r_2 : Bool) => P.cond r_2 (P.cond (P.seq r (ByteArray.mk #[])) (some true) (P.cond (P.seq r_1 (ByteArray.mk #[])) (some true) (P.cond (P.ieq x.snd.snd.snd x.snd.fst) (some (P.beq (P.seq r r_1) (P.ieq x.snd.snd.snd x.snd.fst))) (some (P.beq (P.seq r r_1) false))))) (some false)) (P.cond (P.ieq ((3 : Int)) ((2 : Int))) (P.bind (family_Text k (x.snd.snd.snd, x.snd.snd.snd)) fun (r : ByteArray) => P.bind (family_Text k (x.snd.fst, x.snd.snd.fst)) fun (r_1 : ByteArray) => P.bind (law26_fixed k PUnit.unit) fun (r_2 : Bool) => P.cond r_2 (P.cond (P.seq r (ByteArray.mk #[])) (some true) (P.cond (P.seq r_1 (ByteArray.mk #[])) (some true) (P.cond (P.ieq x.snd.snd.snd x.snd.fst) (some (P.beq (P.seq r r_1) (P.ieq x.snd.snd.snd x.snd.snd.fst))) (some (P.beq (P.seq r r_1) false))))) (some false)) (P.cond (P.ieq ((3 : Int)) ((3 : Int))) (P.bind (family_Text k (x.snd.snd.snd, x.snd.snd.snd)) fun (r : ByteArray) => P.bind (family_Text k (x.snd.fst, x.snd.snd.snd)) fun (r_1 : ByteArray) => P.bind (law26_fixed k PUnit.unit) fun (r_2 : Bool) => P.cond r_2 (P.cond (P.seq r (ByteArray.mk #[])) (some true) (P.cond (P.seq r_1 (ByteArray.mk #[])) (some true) (P.cond (P.ieq x.snd.snd.snd x.snd.fst) (some (P.beq (P.seq r r_1) (P.ieq x.snd.snd.snd x.snd.snd.snd))) (some (P.beq (P.seq r r_1) false))))) (some false)) none)))) (P.cond (P.ieq ((2 : Int)) ((2 : Int))) (P.cond (P.ieq ((3 : Int)) ((0 : Int))) (P.bind (family_Text k (x.snd.snd.snd, x.snd.snd.snd)) fun (r : ByteArray) => P.bind (family_Text k (x.snd.snd.fst, x.fst)) fun (r_1 : ByteArray) => P.bind (law26_fixed k PUnit.unit) fun (r_2 : Bool) => P.cond r_2 (P.cond (P.seq r (ByteArray.mk #[])) (some true) (P.cond (P.seq r_1 (ByteArray.mk #[])) (some true) (P.cond (P.ieq x.snd.snd.snd x.snd.snd.fst) (some (P.beq (P.seq r r_1) (P.ieq x.snd.snd.snd x.fst))) (some (P.beq (P.seq r r_1) false))))) (some false)) (P.cond (P.ieq ((3 : Int)) ((1 : Int))) (P.bind (family_Text k (x.snd.snd.snd, x.snd.snd.snd)) fun (r : ByteArray) => P.bind (family_Text k (x.snd.snd.fst, x.snd.fst)) fun (r_1 : ByteArray) => P.bind (law26_fixed k PUnit.unit) fun (r_2 : Bool) => P.cond r_2 (P.cond (P.seq r (ByteArray.mk #[])) (some true) (P.cond (P.seq r_1 (ByteArray.mk #[])) (some true) (P.cond (P.ieq x.snd.snd.snd x.snd.snd.fst) (some (P.beq (P.seq r r_1) (P.ieq x.snd.snd.snd x.snd.fst))) (some (P.beq (P.seq r r_1) false))))) (some false)) (P.cond (P.ieq ((3 : Int)) ((2 : Int))) (P.bind (family_Text k (x.snd.snd.snd, x.snd.snd.snd)) fun (r : ByteArray) => P.bind (family_Text k (x.snd.snd.fst, x.snd.snd.fst)) fun (r_1 : ByteArray) => P.bind (law26_fixed k PUnit.unit) fun (r_2 : Bool) => P.cond r_2 (P.cond (P.seq r (ByteArray.mk #[])) (some true) (P.cond (P.seq r_1 (ByteArray.mk #[])) (some true) (P.cond (P.ieq x.snd.snd.snd x.snd.snd.fst) (some (P.beq (P.seq r r_1) (P.ieq x.snd.snd.snd x.snd.snd.fst))) (some (P.beq (P.seq r r_1) false))))) (some false)) (P.cond (P.ieq ((3 : Int)) ((3 : Int))) (P.bind (family_Text k (x.snd.snd.snd, x.snd.snd.snd)) fun (r : ByteArray) => P.bind (family_Text k (x.snd.snd.fst, x.snd.snd.snd)) fun (r_1 : ByteArray) => P.bind (law26_fixed k PUnit.unit) fun (r_2 : Bool) => P.cond r_2 (P.cond (P.seq r (ByteArray.mk #[])) (some true) (P.cond (P.seq r_1 (ByteArray.mk #[])) (some true) (P.cond (P.ieq x.snd.snd.snd x.snd.snd.fst) (some (P.beq (P.seq r r_1) (P.ieq x.snd.snd.snd x.snd.snd.snd))) (some (P.beq (P.seq r r_1) false))))) (some false)) none)))) (P.cond (P.ieq ((2 : Int)) ((3 : Int))) (P.cond (P.ieq ((3 : Int)) ((0 : Int))) (P.bind (family_Text k (x.snd.snd.snd, x.snd.snd.snd)) fun (r : ByteArray) => P.bind (family_Text k (x.snd.snd.snd, x.fst)) fun (r_1 : ByteArray) => P.bind (law26_fixed k PUnit.unit) fun (r_2 : Bool) => P.cond r_2 (P.cond (P.seq r (ByteArray.mk #[])) (some true) (P.cond (P.seq r_1 (ByteArray.mk #[])) (some true) (P.cond (P.ieq x.snd.snd.snd x.snd.snd.snd) (some (P.beq (P.seq r r_1) (P.ieq x.snd.snd.snd x.fst))) (some (P.beq (P.seq r r_1) false))))) (some false)) (P.cond (P.ieq ((3 : Int)) ((1 : Int))) (P.bind (family_Text k (x.snd.snd.snd, x.snd.snd.snd)) fun (r : ByteArray) => P.bind (family_Text k (x.snd.snd.snd, x.snd.fst)) fun (r_1 : ByteArray) => P.bind (law26_fixed k PUnit.unit) fun (r_2 : Bool) => P.cond r_2 (P.cond (P.seq r (ByteArray.mk #[])) (some true) (P.cond (P.seq r_1 (ByteArray.mk #[])) (some true) (P.cond (P.ieq x.snd.snd.snd x.snd.snd.snd) (some (P.beq (P.seq r r_1) (P.ieq x.snd.snd.snd x.snd.fst))) (some (P.beq (P.seq r r_1) false))))) (some false)) (P.cond (P.ieq ((3 : Int)) ((2 : Int))) (P.bind (family_Text k (x.snd.snd.snd, x.snd.snd.snd)) fun (r : ByteArray) => P.bind (family_Text k (x.snd.snd.snd, x.snd.snd.fst)) fun (r_1 : ByteArray) => P.bind (law26_fixed k PUnit.unit) fun (r_2 : Bool) => P.cond r_2 (P.cond (P.seq r (ByteArray.mk #[])) (some true) (P.cond (P.seq r_1 (ByteArray.mk #[])) (some true) (P.cond (P.ieq x.snd.snd.snd x.snd.snd.snd) (some (P.beq (P.seq r r_1) (P.ieq x.snd.snd.snd x.snd.snd.fst))) (some (P.beq (P.seq r r_1) false))))) (some false)) (P.cond (P.ieq ((3 : Int)) ((3 : Int))) (P.bind (family_Text k (x.snd.snd.snd, x.snd.snd.snd)) fun (r : ByteArray) => P.bind (family_Text k (x.snd.snd.snd, x.snd.snd.snd)) fun (r_1 : ByteArray) => P.bind (law26_fixed k PUnit.unit) fun (r_2 : Bool) => P.cond r_2 (P.cond (P.seq r (ByteArray.mk #[])) (some true) (P.cond (P.seq r_1 (ByteArray.mk #[])) (some true) (P.cond (P.ieq x.snd.snd.snd x.snd.snd.snd) (some (P.beq (P.seq r r_1) (P.ieq x.snd.snd.snd x.snd.snd.snd))) (some (P.beq (P.seq r r_1) false))))) (some false)) none)))) none)))) none)))) none)))
theorem law26_FamilyUnlike_eq (k : Nat) (x : (Ty.D (.st (.pair (.int .i64) (.pair (.int .i64) (.pair (.int .i64) (.int .i64))))))) : evFn (EN k [(9, ⟨.unit, .bool, law26_fixed k⟩), (10, ⟨(.pair (.int .i64) (.int .i64)), .str, family_Text k⟩)]) 6 Tryd.f4 [] (.st (.pair (.int .i64) (.pair (.int .i64) (.pair (.int .i64) (.int .i64))))) .bool x = law26_FamilyUnlike k x := by kernel_rfl
theorem law26_FamilyUnlike_spec (k : Nat) : SpecOk Tryd.prog GG 4 ⟨(.st (.pair (.int .i64) (.pair (.int .i64) (.pair (.int .i64) (.int .i64))))), .bool, law26_FamilyUnlike k⟩ :=
  fn_spec (envOk (E := EN k [(9, ⟨.unit, .bool, law26_fixed k⟩), (10, ⟨(.pair (.int .i64) (.int .i64)), .str, family_Text k⟩)]) tabOk (.cons (law26_fixed_spec k) f9_at f9_ok <| .cons (family_Text_spec k) f10_at f10_ok <| .nil) codesOk mixedOk ggKeep) f4_at (fun x => (law26_FamilyUnlike_eq k x).symm)
end
section
namespace Go.PL
open Go.PG
theorem cond_true {α : Type} (x y : α) : P.cond true x y = x := rfl
theorem cond_false {α : Type} (x y : α) : P.cond false x y = y := rfl
theorem bind_some {α β : Type} (a : α) (f : α → Option β) : P.bind (some a) f = f a := rfl
section
variable {τ ρ : Type} {f : τ → Option (τ ⊕ ρ)}
theorem iter_succ (k : Nat) (x : τ) : P.iter (k + 1) f x = match f x with
    | none => none
    | some (.inl y) => P.iter k f y
    | some (.inr r) => some r := rfl
end
theorem ieq_iff {x y : Int} : P.ieq x y = true ↔ x = y := by simp [P.ieq]
theorem wrap_i64 {x : Int} (h0 : -9223372036854775808 ≤ x) (h1 : x < 9223372036854775808) : P.wrap .i64 x = x := by
  show IntKind.i64.wrap x = x
  simp only [IntKind.wrap, IntKind.bits, IntKind.signed]
  simp
  omega
def ltS (a b : ByteArray) : Prop := a.data.toList < b.data.toList
instance (a b : ByteArray) : Decidable (ltS a b) := inferInstanceAs (Decidable (a.data.toList < b.data.toList))
theorem ba_ext {a b : ByteArray} (h : a.data.toList = b.data.toList) : a = b := by
  cases a; cases b; simp at h; simp [h]
theorem seq_iff {a b : ByteArray} : P.seq a b = true ↔ a = b := by
  unfold P.seq
  simp only [beq_iff_eq]
  exact ⟨ba_ext, fun h => by rw [h]⟩
end Go.PL
end
section
namespace Go.PL.Sv
variable {K : Type} [DecidableEq K]
structure St (K : Type) where
  out : K → Option Bool
  on : K → List K
  work : List K
def up {α : Type} (f : K → α) (k : K) (v : α) : K → α := fun x => if x = k then v else f x
def ask1 (k : K) (s : St K) (o : K) : St K :=
  { out := if s.out o = none then up s.out o (some true) else s.out
    on := up s.on o (s.on o ++ [k])
    work := if s.out o = none then s.work ++ [o] else s.work }
def ans (s : St K) (o : K) : Bool := (s.out o).getD true
def asks (k : K) (os : List K) (s : St K) : St K := os.foldl (ask1 k) s
variable (asked : K → List K) (rule : K → (K → Bool) → Bool)
def step (s : St K) (k : K) (w : List K) : St K :=
  if s.out k = some true then
    let s1 := asks k (asked k) { s with work := w }
    if rule k (ans s) = true then s1 else { out := up s1.out k (some false), on := up s1.on k [], work := s1.work ++ s1.on k }
  else { s with work := w }
def Holds (T : K → Prop) : Prop := ∀ k, T k → ∀ f : K → Bool, (∀ o, T o → f o = true) → rule k f = true
def Gfp (k : K) : Prop := ∃ T : K → Prop, T k ∧ Holds rule T
structure Inv (U : List K) (start : K) (ps : List K) (s : St K) : Prop where
  dom : ∀ k, s.out k ≠ none → k ∈ U
  good : ∀ k, s.out k = some true → k ∈ s.work ∨ ((∀ o ∈ asked k, s.out o ≠ none ∧ (s.out o = some true → k ∈ s.on o)) ∧ rule k (ans s) = true)
  bad : ∀ k, s.out k = some false → ¬ Gfp rule k
  st : s.out start ≠ none
  cw : ∀ k, s.work.count k + ps.count k ≤ 2 ^ ((asked k).countP fun o => s.out o = some false)
  co : ∀ k o, (s.on o).count k ≤ ps.count k * (asked k).count o
  new : ∀ k, s.out k = none → k ∉ s.work ∧ k ∉ ps
  psU : ∀ k ∈ ps, k ∈ U
structure Mid (U : List K) (start : K) (ps : List K) (k : K) (s0 : St K) (done : List K) (s : St K) : Prop where
  dom : ∀ x, s.out x ≠ none → x ∈ U
  old : ∀ x, s0.out x ≠ none → s.out x = s0.out x
  nw : ∀ x, s0.out x = none → s.out x = none ∨ (s.out x = some true ∧ x ∈ s.work)
  sub : ∀ x, x ∈ s0.work → x ∈ s.work
  onsub : ∀ x o, x ∈ s0.on o → x ∈ s.on o
  dn : ∀ o ∈ done, s.out o ≠ none ∧ k ∈ s.on o
  cw : ∀ x, s.work.count x = s0.work.count x + (if s0.out x = none ∧ s.out x ≠ none then 1 else 0)
  co : ∀ x o, (s.on o).count x = (s0.on o).count x + (if x = k then done.count o else 0)
  none : ∀ x, s.out x = none → x ∉ s.work
variable {asked rule}
theorem Inv.done (mono : ∀ k (f g : K → Bool), (∀ o ∈ asked k, f o = true → g o = true) → rule k f = true → rule k g = true) {U : List K} {start : K} {ps : List K} {s : St K} (I : Inv asked rule U start ps s) (hw : s.work = []) : s.out start = some true ↔ Gfp rule start := by
  constructor
  · intro h
    refine ⟨fun k => s.out k = some true, h, fun k hk f hf => ?_⟩
    rcases I.good k hk with z | ⟨h1, h2⟩
    · rw [hw] at z; cases z
    · refine mono k (ans s) f (fun o ho z => hf o ?_) h2
      obtain ⟨g1, _⟩ := h1 o ho
      cases q : s.out o with
      | none => exact absurd q g1
      | some b => rw [ans, q] at z; simpa using z
  · intro h
    cases q : s.out start with
    | none => exact absurd q I.st
    | some b => cases b with
      | true => rfl
      | false => exact absurd h (I.bad start q)
end Go.PL.Sv
end
section
namespace Go.PL.Sv
open Go.PG
variable {K : Type} [DecidableEq K] {f : K → K → Bool}
end Go.PL.Sv
end
section
namespace Go.PL.Ty
open Go.PG Go.PL.Sv
abbrev Tf := ByteArray × Int
abbrev Tt := Int × List Tf × List Int
def at_ (t : List Tt) (x : Int) : Tt := P.get t x (0, [], [])
def fieldT : List Tf → ByteArray → Option Int
  | [], _ => none
  | f :: r, s => if f.1 = s then some f.2 else fieldT r s
def RuleP (t : List Tt) (R : Int × Int → Prop) (p : Int × Int) : Prop :=
  if (at_ t p.1).1 = 5 then ∀ e ∈ (at_ t p.1).2.2, R (e, p.2)
  else if (at_ t p.2).1 = 5 then ∃ e ∈ (at_ t p.2).2.2, R (p.1, e)
  else if (at_ t p.2).1 = 0 then True
  else if (at_ t p.1).1 ≠ (at_ t p.2).1 then False
  else ∀ f ∈ (at_ t p.2).2.1, ∃ k, fieldT (at_ t p.1).2.1 f.1 = some k ∧ R (k, f.2)
def asked (t : List Tt) (p : Int × Int) : List (Int × Int) :=
  if (at_ t p.1).1 = 5 then (at_ t p.1).2.2.map fun e => (e, p.2)
  else if (at_ t p.2).1 = 5 then (at_ t p.2).2.2.map fun e => (p.1, e)
  else if (at_ t p.2).1 = 0 then []
  else if (at_ t p.1).1 ≠ (at_ t p.2).1 then []
  else (at_ t p.2).2.1.filterMap fun f => (fieldT (at_ t p.1).2.1 f.1).map fun k => (k, f.2)
theorem RuleP.mono {t : List Tt} {R R' : Int × Int → Prop} {p : Int × Int} (h : ∀ o ∈ asked t p, R o → R' o) (hp : RuleP t R p) : RuleP t R' p := by
  unfold RuleP at hp ⊢
  unfold asked at h
  split at hp
  · rename_i c; rw [if_pos c] at h ⊢
    exact fun e he => h _ (List.mem_map.2 ⟨e, he, rfl⟩) (hp e he)
  · rename_i c; rw [if_neg c] at h ⊢
    split at hp
    · rename_i c; rw [if_pos c] at h ⊢
      obtain ⟨e, he, hp⟩ := hp
      exact ⟨e, he, h _ (List.mem_map.2 ⟨e, he, rfl⟩) hp⟩
    · rename_i c; rw [if_neg c] at h ⊢
      split at hp
      · rename_i c; rw [if_pos c]; trivial
      · rename_i c; rw [if_neg c] at h ⊢
        split at hp
        · exact hp.elim
        · rename_i c; rw [if_neg c] at h ⊢
          intro f hf
          obtain ⟨k, hk, hR⟩ := hp f hf
          exact ⟨k, hk, h _ (List.mem_filterMap.2 ⟨f, hf, by rw [hk]; rfl⟩) hR⟩
structure MayT (t : List Tt) : Prop where
  elem : ∀ (i : Nat) (x : Tt), t[i]? = some x → ∀ e ∈ x.2.2, 0 ≤ e ∧ e < (i : Int)
  fld : ∀ (i : Nat) (x : Tt), t[i]? = some x → ∀ f ∈ x.2.1, 0 ≤ f.2 ∧ f.2 < (t.length : Int)
  names : ∀ (i : Nat) (x : Tt), t[i]? = some x → (x.2.1.map Prod.fst).Nodup
  kind : ∀ (i : Nat) (x : Tt), t[i]? = some x → 0 ≤ x.1 ∧ x.1 ≤ 5 ∧ (x.1 ≠ 4 → x.2.1 = []) ∧ (x.1 ≠ 5 → x.2.2 = [])
inductive Under (t : List Tt) : Int → Int → Prop where
  | refl (x : Int) : Under t x x
  | step {x y e : Int} (k : (at_ t y).1 = 5) (he : e ∈ (at_ t y).2.2) (h : Under t x e) : Under t x y
theorem Under.trans {t : List Tt} {x y z : Int} (h : Under t x y) (g : Under t y z) : Under t x z := by
  induction g with
  | refl => exact h
  | step k he _ ih => exact .step k he ih
abbrev Vl := Int × Int
def kindOf (k : Int) : Int := if k = 1 then 0 else if k = 2 then 1 else if k = 3 then 2 else if k = 4 then 4 else 0
def RuleI (t : List Tt) (look : Vl → ByteArray → Option Vl) (R : Vl × Int → Prop) (p : Vl × Int) : Prop :=
  if (at_ t p.2).1 = 0 then True
  else if (at_ t p.2).1 = 5 then ∃ e ∈ (at_ t p.2).2.2, R (p.1, e)
  else if kindOf (at_ t p.2).1 ≠ p.1.1 then False
  else ∀ f ∈ (at_ t p.2).2.1, ∃ w, look p.1 f.1 = some w ∧ R (w, f.2)
def askedI (t : List Tt) (look : Vl → ByteArray → Option Vl) (p : Vl × Int) : List (Vl × Int) :=
  if (at_ t p.2).1 = 0 then []
  else if (at_ t p.2).1 = 5 then (at_ t p.2).2.2.map fun e => (p.1, e)
  else if kindOf (at_ t p.2).1 ≠ p.1.1 then []
  else (at_ t p.2).2.1.filterMap fun f => (look p.1 f.1).map fun k => (k, f.2)
theorem RuleI.mono {t : List Tt} {look : Vl → ByteArray → Option Vl} {R R' : Vl × Int → Prop} {p : Vl × Int} (h : ∀ o ∈ askedI t look p, R o → R' o) (hp : RuleI t look R p) : RuleI t look R' p := by
  unfold RuleI at hp ⊢
  unfold askedI at h
  split at hp
  · rename_i c; rw [if_pos c]; trivial
  · rename_i c; rw [if_neg c] at h ⊢
    split at hp
    · rename_i c; rw [if_pos c] at h ⊢
      obtain ⟨e, he, hp⟩ := hp
      exact ⟨e, he, h _ (List.mem_map.2 ⟨e, he, rfl⟩) hp⟩
    · rename_i c; rw [if_neg c] at h ⊢
      split at hp
      · exact hp.elim
      · rename_i c; rw [if_neg c] at h ⊢
        intro f hf
        obtain ⟨k, hk, hR⟩ := hp f hf
        exact ⟨k, hk, h _ (List.mem_filterMap.2 ⟨f, hf, by rw [hk]; rfl⟩) hR⟩
end Go.PL.Ty
end
section
open Go Go.PG Go.PL
set_option linter.all false
namespace Go.PL.Ty
def K : Nat := 18446744073709551616
theorem cond_dec {α : Type} (p : Prop) [Decidable p] (x y : α) : P.cond (decide p) x y = if p then x else y := by
  by_cases h : p
  · rw [decide_eq_true h, if_pos h]; rfl
  · rw [decide_eq_false h, if_neg h]; rfl
theorem ilt_dec (a b : Int) : P.ilt a b = decide (a < b) := rfl
theorem ile_dec (a b : Int) : P.ile a b = decide (a ≤ b) := rfl
end Go.PL.Ty
end
section
open Go Go.PG Go.PL
set_option linter.all false
namespace Go.PL.Fa
def K : Nat := 18446744073709551616
def isT : Option Bool → Bool
  | some true => true
  | _ => false
theorem isT_iff {x : Option Bool} (h : isT x = true) : x = some true := by
  cases x with
  | none => cases h
  | some b => cases b with
    | true => rfl
    | false => cases h
def hash (b : ByteArray) : Nat := b.data.toList.foldl (fun a c => (a * 257 + c.toNat) % 1000000007) 7
noncomputable def tx (k n : Nat) : Option ByteArray := family_Text K ((k : Nat), ((n + 1 : Nat) : Int))
noncomputable def hx (k n : Nat) : Option Nat := match tx k n with
  | some b => some (hash b)
  | none => none
def tab : List (List Nat) := [[359999958, 908707209, 217181055, 779721660, 579805251, 239561224, 945143255, 654416798, 437992474, 156119192, 229019796, 723772518, 320200958, 664834191, 877003419, 827769712, 900802776, 60933363, 135085164, 754372127], [965216034, 107035387, 37140699, 573674290, 406534756, 424518356, 81145329, 151037376, 280202508, 315611144, 189612318, 132673143, 341974451, 260605041, 505210899, 810989557, 782601320, 737374066, 420451909, 410039028], [307413848, 635866279, 609970916, 775823727, 456705958, 526584062, 633995286, 390240322, 367844488, 130160081, 78456447, 551720362, 21036872, 977518158, 33644439, 431269496, 756170001, 337050599, 289664323, 240251591], [178514974, 493700002, 808885030, 124070051, 439255079, 754440107, 69625128, 384810156, 699995184, 949126551, 763531986, 577937421, 392342856, 206748291, 21153726, 835559168, 649964603, 464370038, 278775473, 251323675], [879285490, 242870329, 552992499, 406035918, 385185705, 44157891, 103119337, 516330582, 133975201, 983978134, 725533663, 672975716, 444799607, 279151948, 864376012, 438765696, 137873373, 27050318, 181495087, 105096465]]
def tabv (k n : Nat) : Nat := (tab.getD k []).getD n 0
set_option maxRecDepth 100000
theorem fixed26 : law26_fixed K () = some true := by kernel_rfl
theorem t0_0 : [0, 1].all (fun n => isT (law26_FamilyTells K ((0 : Int), ((n + 1 : Nat) : Int)))) = true := by kernel_rfl
theorem h0_0 : [0, 1].all (fun n => decide (hx 0 n = some (tabv 0 n))) = true := by kernel_rfl
theorem t0_1 : [2, 3].all (fun n => isT (law26_FamilyTells K ((0 : Int), ((n + 1 : Nat) : Int)))) = true := by kernel_rfl
theorem h0_1 : [2, 3].all (fun n => decide (hx 0 n = some (tabv 0 n))) = true := by kernel_rfl
theorem t0_2 : [4, 5].all (fun n => isT (law26_FamilyTells K ((0 : Int), ((n + 1 : Nat) : Int)))) = true := by kernel_rfl
theorem h0_2 : [4, 5].all (fun n => decide (hx 0 n = some (tabv 0 n))) = true := by kernel_rfl
theorem t0_3 : [6, 7].all (fun n => isT (law26_FamilyTells K ((0 : Int), ((n + 1 : Nat) : Int)))) = true := by kernel_rfl
theorem h0_3 : [6, 7].all (fun n => decide (hx 0 n = some (tabv 0 n))) = true := by kernel_rfl
theorem t0_4 : [8, 9].all (fun n => isT (law26_FamilyTells K ((0 : Int), ((n + 1 : Nat) : Int)))) = true := by kernel_rfl
theorem h0_4 : [8, 9].all (fun n => decide (hx 0 n = some (tabv 0 n))) = true := by kernel_rfl
theorem t0_5 : [10, 11].all (fun n => isT (law26_FamilyTells K ((0 : Int), ((n + 1 : Nat) : Int)))) = true := by kernel_rfl
theorem h0_5 : [10, 11].all (fun n => decide (hx 0 n = some (tabv 0 n))) = true := by kernel_rfl
theorem t0_6 : [12, 13].all (fun n => isT (law26_FamilyTells K ((0 : Int), ((n + 1 : Nat) : Int)))) = true := by kernel_rfl
theorem h0_6 : [12, 13].all (fun n => decide (hx 0 n = some (tabv 0 n))) = true := by kernel_rfl
theorem t0_7 : [14, 15].all (fun n => isT (law26_FamilyTells K ((0 : Int), ((n + 1 : Nat) : Int)))) = true := by kernel_rfl
theorem h0_7 : [14, 15].all (fun n => decide (hx 0 n = some (tabv 0 n))) = true := by kernel_rfl
theorem t0_8 : [16, 17].all (fun n => isT (law26_FamilyTells K ((0 : Int), ((n + 1 : Nat) : Int)))) = true := by kernel_rfl
theorem h0_8 : [16, 17].all (fun n => decide (hx 0 n = some (tabv 0 n))) = true := by kernel_rfl
theorem t0_9 : [18, 19].all (fun n => isT (law26_FamilyTells K ((0 : Int), ((n + 1 : Nat) : Int)))) = true := by kernel_rfl
theorem h0_9 : [18, 19].all (fun n => decide (hx 0 n = some (tabv 0 n))) = true := by kernel_rfl
theorem t1_0 : [0, 1].all (fun n => isT (law26_FamilyTells K ((1 : Int), ((n + 1 : Nat) : Int)))) = true := by kernel_rfl
theorem h1_0 : [0, 1].all (fun n => decide (hx 1 n = some (tabv 1 n))) = true := by kernel_rfl
theorem t1_1 : [2, 3].all (fun n => isT (law26_FamilyTells K ((1 : Int), ((n + 1 : Nat) : Int)))) = true := by kernel_rfl
theorem h1_1 : [2, 3].all (fun n => decide (hx 1 n = some (tabv 1 n))) = true := by kernel_rfl
theorem t1_2 : [4, 5].all (fun n => isT (law26_FamilyTells K ((1 : Int), ((n + 1 : Nat) : Int)))) = true := by kernel_rfl
theorem h1_2 : [4, 5].all (fun n => decide (hx 1 n = some (tabv 1 n))) = true := by kernel_rfl
theorem t1_3 : [6, 7].all (fun n => isT (law26_FamilyTells K ((1 : Int), ((n + 1 : Nat) : Int)))) = true := by kernel_rfl
theorem h1_3 : [6, 7].all (fun n => decide (hx 1 n = some (tabv 1 n))) = true := by kernel_rfl
theorem t1_4 : [8, 9].all (fun n => isT (law26_FamilyTells K ((1 : Int), ((n + 1 : Nat) : Int)))) = true := by kernel_rfl
theorem h1_4 : [8, 9].all (fun n => decide (hx 1 n = some (tabv 1 n))) = true := by kernel_rfl
theorem t1_5 : [10, 11].all (fun n => isT (law26_FamilyTells K ((1 : Int), ((n + 1 : Nat) : Int)))) = true := by kernel_rfl
theorem h1_5 : [10, 11].all (fun n => decide (hx 1 n = some (tabv 1 n))) = true := by kernel_rfl
theorem t1_6 : [12, 13].all (fun n => isT (law26_FamilyTells K ((1 : Int), ((n + 1 : Nat) : Int)))) = true := by kernel_rfl
theorem h1_6 : [12, 13].all (fun n => decide (hx 1 n = some (tabv 1 n))) = true := by kernel_rfl
theorem t1_7 : [14, 15].all (fun n => isT (law26_FamilyTells K ((1 : Int), ((n + 1 : Nat) : Int)))) = true := by kernel_rfl
theorem h1_7 : [14, 15].all (fun n => decide (hx 1 n = some (tabv 1 n))) = true := by kernel_rfl
theorem t1_8 : [16, 17].all (fun n => isT (law26_FamilyTells K ((1 : Int), ((n + 1 : Nat) : Int)))) = true := by kernel_rfl
theorem h1_8 : [16, 17].all (fun n => decide (hx 1 n = some (tabv 1 n))) = true := by kernel_rfl
theorem t1_9 : [18, 19].all (fun n => isT (law26_FamilyTells K ((1 : Int), ((n + 1 : Nat) : Int)))) = true := by kernel_rfl
theorem h1_9 : [18, 19].all (fun n => decide (hx 1 n = some (tabv 1 n))) = true := by kernel_rfl
theorem t2_0 : [0, 1].all (fun n => isT (law26_FamilyTells K ((2 : Int), ((n + 1 : Nat) : Int)))) = true := by kernel_rfl
theorem h2_0 : [0, 1].all (fun n => decide (hx 2 n = some (tabv 2 n))) = true := by kernel_rfl
theorem t2_1 : [2, 3].all (fun n => isT (law26_FamilyTells K ((2 : Int), ((n + 1 : Nat) : Int)))) = true := by kernel_rfl
theorem h2_1 : [2, 3].all (fun n => decide (hx 2 n = some (tabv 2 n))) = true := by kernel_rfl
theorem t2_2 : [4, 5].all (fun n => isT (law26_FamilyTells K ((2 : Int), ((n + 1 : Nat) : Int)))) = true := by kernel_rfl
theorem h2_2 : [4, 5].all (fun n => decide (hx 2 n = some (tabv 2 n))) = true := by kernel_rfl
theorem t2_3 : [6, 7].all (fun n => isT (law26_FamilyTells K ((2 : Int), ((n + 1 : Nat) : Int)))) = true := by kernel_rfl
theorem h2_3 : [6, 7].all (fun n => decide (hx 2 n = some (tabv 2 n))) = true := by kernel_rfl
theorem t2_4 : [8, 9].all (fun n => isT (law26_FamilyTells K ((2 : Int), ((n + 1 : Nat) : Int)))) = true := by kernel_rfl
theorem h2_4 : [8, 9].all (fun n => decide (hx 2 n = some (tabv 2 n))) = true := by kernel_rfl
theorem t2_5 : [10, 11].all (fun n => isT (law26_FamilyTells K ((2 : Int), ((n + 1 : Nat) : Int)))) = true := by kernel_rfl
theorem h2_5 : [10, 11].all (fun n => decide (hx 2 n = some (tabv 2 n))) = true := by kernel_rfl
theorem t2_6 : [12, 13].all (fun n => isT (law26_FamilyTells K ((2 : Int), ((n + 1 : Nat) : Int)))) = true := by kernel_rfl
theorem h2_6 : [12, 13].all (fun n => decide (hx 2 n = some (tabv 2 n))) = true := by kernel_rfl
theorem t2_7 : [14, 15].all (fun n => isT (law26_FamilyTells K ((2 : Int), ((n + 1 : Nat) : Int)))) = true := by kernel_rfl
theorem h2_7 : [14, 15].all (fun n => decide (hx 2 n = some (tabv 2 n))) = true := by kernel_rfl
theorem t2_8 : [16, 17].all (fun n => isT (law26_FamilyTells K ((2 : Int), ((n + 1 : Nat) : Int)))) = true := by kernel_rfl
theorem h2_8 : [16, 17].all (fun n => decide (hx 2 n = some (tabv 2 n))) = true := by kernel_rfl
theorem t2_9 : [18, 19].all (fun n => isT (law26_FamilyTells K ((2 : Int), ((n + 1 : Nat) : Int)))) = true := by kernel_rfl
theorem h2_9 : [18, 19].all (fun n => decide (hx 2 n = some (tabv 2 n))) = true := by kernel_rfl
theorem t3_0 : [0, 1].all (fun n => isT (law26_FamilyTells K ((3 : Int), ((n + 1 : Nat) : Int)))) = true := by kernel_rfl
theorem h3_0 : [0, 1].all (fun n => decide (hx 3 n = some (tabv 3 n))) = true := by kernel_rfl
theorem t3_1 : [2, 3].all (fun n => isT (law26_FamilyTells K ((3 : Int), ((n + 1 : Nat) : Int)))) = true := by kernel_rfl
theorem h3_1 : [2, 3].all (fun n => decide (hx 3 n = some (tabv 3 n))) = true := by kernel_rfl
theorem t3_2 : [4, 5].all (fun n => isT (law26_FamilyTells K ((3 : Int), ((n + 1 : Nat) : Int)))) = true := by kernel_rfl
theorem h3_2 : [4, 5].all (fun n => decide (hx 3 n = some (tabv 3 n))) = true := by kernel_rfl
theorem t3_3 : [6, 7].all (fun n => isT (law26_FamilyTells K ((3 : Int), ((n + 1 : Nat) : Int)))) = true := by kernel_rfl
theorem h3_3 : [6, 7].all (fun n => decide (hx 3 n = some (tabv 3 n))) = true := by kernel_rfl
theorem t3_4 : [8, 9].all (fun n => isT (law26_FamilyTells K ((3 : Int), ((n + 1 : Nat) : Int)))) = true := by kernel_rfl
theorem h3_4 : [8, 9].all (fun n => decide (hx 3 n = some (tabv 3 n))) = true := by kernel_rfl
theorem t3_5 : [10, 11].all (fun n => isT (law26_FamilyTells K ((3 : Int), ((n + 1 : Nat) : Int)))) = true := by kernel_rfl
theorem h3_5 : [10, 11].all (fun n => decide (hx 3 n = some (tabv 3 n))) = true := by kernel_rfl
theorem t3_6 : [12, 13].all (fun n => isT (law26_FamilyTells K ((3 : Int), ((n + 1 : Nat) : Int)))) = true := by kernel_rfl
theorem h3_6 : [12, 13].all (fun n => decide (hx 3 n = some (tabv 3 n))) = true := by kernel_rfl
theorem t3_7 : [14, 15].all (fun n => isT (law26_FamilyTells K ((3 : Int), ((n + 1 : Nat) : Int)))) = true := by kernel_rfl
theorem h3_7 : [14, 15].all (fun n => decide (hx 3 n = some (tabv 3 n))) = true := by kernel_rfl
theorem t3_8 : [16, 17].all (fun n => isT (law26_FamilyTells K ((3 : Int), ((n + 1 : Nat) : Int)))) = true := by kernel_rfl
theorem h3_8 : [16, 17].all (fun n => decide (hx 3 n = some (tabv 3 n))) = true := by kernel_rfl
theorem t3_9 : [18, 19].all (fun n => isT (law26_FamilyTells K ((3 : Int), ((n + 1 : Nat) : Int)))) = true := by kernel_rfl
theorem h3_9 : [18, 19].all (fun n => decide (hx 3 n = some (tabv 3 n))) = true := by kernel_rfl
theorem t4_0 : [0, 1].all (fun n => isT (law26_FamilyTells K ((4 : Int), ((n + 1 : Nat) : Int)))) = true := by kernel_rfl
theorem h4_0 : [0, 1].all (fun n => decide (hx 4 n = some (tabv 4 n))) = true := by kernel_rfl
theorem t4_1 : [2, 3].all (fun n => isT (law26_FamilyTells K ((4 : Int), ((n + 1 : Nat) : Int)))) = true := by kernel_rfl
theorem h4_1 : [2, 3].all (fun n => decide (hx 4 n = some (tabv 4 n))) = true := by kernel_rfl
theorem t4_2 : [4, 5].all (fun n => isT (law26_FamilyTells K ((4 : Int), ((n + 1 : Nat) : Int)))) = true := by kernel_rfl
theorem h4_2 : [4, 5].all (fun n => decide (hx 4 n = some (tabv 4 n))) = true := by kernel_rfl
theorem t4_3 : [6, 7].all (fun n => isT (law26_FamilyTells K ((4 : Int), ((n + 1 : Nat) : Int)))) = true := by kernel_rfl
theorem h4_3 : [6, 7].all (fun n => decide (hx 4 n = some (tabv 4 n))) = true := by kernel_rfl
theorem t4_4 : [8, 9].all (fun n => isT (law26_FamilyTells K ((4 : Int), ((n + 1 : Nat) : Int)))) = true := by kernel_rfl
theorem h4_4 : [8, 9].all (fun n => decide (hx 4 n = some (tabv 4 n))) = true := by kernel_rfl
theorem t4_5 : [10, 11].all (fun n => isT (law26_FamilyTells K ((4 : Int), ((n + 1 : Nat) : Int)))) = true := by kernel_rfl
theorem h4_5 : [10, 11].all (fun n => decide (hx 4 n = some (tabv 4 n))) = true := by kernel_rfl
theorem t4_6 : [12, 13].all (fun n => isT (law26_FamilyTells K ((4 : Int), ((n + 1 : Nat) : Int)))) = true := by kernel_rfl
theorem h4_6 : [12, 13].all (fun n => decide (hx 4 n = some (tabv 4 n))) = true := by kernel_rfl
theorem t4_7 : [14, 15].all (fun n => isT (law26_FamilyTells K ((4 : Int), ((n + 1 : Nat) : Int)))) = true := by kernel_rfl
theorem h4_7 : [14, 15].all (fun n => decide (hx 4 n = some (tabv 4 n))) = true := by kernel_rfl
theorem t4_8 : [16, 17].all (fun n => isT (law26_FamilyTells K ((4 : Int), ((n + 1 : Nat) : Int)))) = true := by kernel_rfl
theorem h4_8 : [16, 17].all (fun n => decide (hx 4 n = some (tabv 4 n))) = true := by kernel_rfl
theorem t4_9 : [18, 19].all (fun n => isT (law26_FamilyTells K ((4 : Int), ((n + 1 : Nat) : Int)))) = true := by kernel_rfl
theorem h4_9 : [18, 19].all (fun n => decide (hx 4 n = some (tabv 4 n))) = true := by kernel_rfl
theorem tab_inj : ((List.range 5).all fun k => (List.range 20).all fun n => (List.range 5).all fun l => (List.range 20).all fun m => !(Nat.beq (tabv k n) (tabv l m)) || (Nat.beq k l && Nat.beq n m)) = true := by kernel_rfl
theorem tk0 (n : Nat) (hn : n < 20) : isT (law26_FamilyTells K ((0 : Int), ((n + 1 : Nat) : Int))) = true := by
  by_cases c0 : n < 2
  · exact List.all_eq_true.1 t0_0 n (by simp; omega)
  by_cases c1 : n < 4
  · exact List.all_eq_true.1 t0_1 n (by simp; omega)
  by_cases c2 : n < 6
  · exact List.all_eq_true.1 t0_2 n (by simp; omega)
  by_cases c3 : n < 8
  · exact List.all_eq_true.1 t0_3 n (by simp; omega)
  by_cases c4 : n < 10
  · exact List.all_eq_true.1 t0_4 n (by simp; omega)
  by_cases c5 : n < 12
  · exact List.all_eq_true.1 t0_5 n (by simp; omega)
  by_cases c6 : n < 14
  · exact List.all_eq_true.1 t0_6 n (by simp; omega)
  by_cases c7 : n < 16
  · exact List.all_eq_true.1 t0_7 n (by simp; omega)
  by_cases c8 : n < 18
  · exact List.all_eq_true.1 t0_8 n (by simp; omega)
  exact List.all_eq_true.1 t0_9 n (by simp; omega)
theorem tk1 (n : Nat) (hn : n < 20) : isT (law26_FamilyTells K ((1 : Int), ((n + 1 : Nat) : Int))) = true := by
  by_cases c0 : n < 2
  · exact List.all_eq_true.1 t1_0 n (by simp; omega)
  by_cases c1 : n < 4
  · exact List.all_eq_true.1 t1_1 n (by simp; omega)
  by_cases c2 : n < 6
  · exact List.all_eq_true.1 t1_2 n (by simp; omega)
  by_cases c3 : n < 8
  · exact List.all_eq_true.1 t1_3 n (by simp; omega)
  by_cases c4 : n < 10
  · exact List.all_eq_true.1 t1_4 n (by simp; omega)
  by_cases c5 : n < 12
  · exact List.all_eq_true.1 t1_5 n (by simp; omega)
  by_cases c6 : n < 14
  · exact List.all_eq_true.1 t1_6 n (by simp; omega)
  by_cases c7 : n < 16
  · exact List.all_eq_true.1 t1_7 n (by simp; omega)
  by_cases c8 : n < 18
  · exact List.all_eq_true.1 t1_8 n (by simp; omega)
  exact List.all_eq_true.1 t1_9 n (by simp; omega)
theorem tk2 (n : Nat) (hn : n < 20) : isT (law26_FamilyTells K ((2 : Int), ((n + 1 : Nat) : Int))) = true := by
  by_cases c0 : n < 2
  · exact List.all_eq_true.1 t2_0 n (by simp; omega)
  by_cases c1 : n < 4
  · exact List.all_eq_true.1 t2_1 n (by simp; omega)
  by_cases c2 : n < 6
  · exact List.all_eq_true.1 t2_2 n (by simp; omega)
  by_cases c3 : n < 8
  · exact List.all_eq_true.1 t2_3 n (by simp; omega)
  by_cases c4 : n < 10
  · exact List.all_eq_true.1 t2_4 n (by simp; omega)
  by_cases c5 : n < 12
  · exact List.all_eq_true.1 t2_5 n (by simp; omega)
  by_cases c6 : n < 14
  · exact List.all_eq_true.1 t2_6 n (by simp; omega)
  by_cases c7 : n < 16
  · exact List.all_eq_true.1 t2_7 n (by simp; omega)
  by_cases c8 : n < 18
  · exact List.all_eq_true.1 t2_8 n (by simp; omega)
  exact List.all_eq_true.1 t2_9 n (by simp; omega)
theorem tk3 (n : Nat) (hn : n < 20) : isT (law26_FamilyTells K ((3 : Int), ((n + 1 : Nat) : Int))) = true := by
  by_cases c0 : n < 2
  · exact List.all_eq_true.1 t3_0 n (by simp; omega)
  by_cases c1 : n < 4
  · exact List.all_eq_true.1 t3_1 n (by simp; omega)
  by_cases c2 : n < 6
  · exact List.all_eq_true.1 t3_2 n (by simp; omega)
  by_cases c3 : n < 8
  · exact List.all_eq_true.1 t3_3 n (by simp; omega)
  by_cases c4 : n < 10
  · exact List.all_eq_true.1 t3_4 n (by simp; omega)
  by_cases c5 : n < 12
  · exact List.all_eq_true.1 t3_5 n (by simp; omega)
  by_cases c6 : n < 14
  · exact List.all_eq_true.1 t3_6 n (by simp; omega)
  by_cases c7 : n < 16
  · exact List.all_eq_true.1 t3_7 n (by simp; omega)
  by_cases c8 : n < 18
  · exact List.all_eq_true.1 t3_8 n (by simp; omega)
  exact List.all_eq_true.1 t3_9 n (by simp; omega)
theorem tk4 (n : Nat) (hn : n < 20) : isT (law26_FamilyTells K ((4 : Int), ((n + 1 : Nat) : Int))) = true := by
  by_cases c0 : n < 2
  · exact List.all_eq_true.1 t4_0 n (by simp; omega)
  by_cases c1 : n < 4
  · exact List.all_eq_true.1 t4_1 n (by simp; omega)
  by_cases c2 : n < 6
  · exact List.all_eq_true.1 t4_2 n (by simp; omega)
  by_cases c3 : n < 8
  · exact List.all_eq_true.1 t4_3 n (by simp; omega)
  by_cases c4 : n < 10
  · exact List.all_eq_true.1 t4_4 n (by simp; omega)
  by_cases c5 : n < 12
  · exact List.all_eq_true.1 t4_5 n (by simp; omega)
  by_cases c6 : n < 14
  · exact List.all_eq_true.1 t4_6 n (by simp; omega)
  by_cases c7 : n < 16
  · exact List.all_eq_true.1 t4_7 n (by simp; omega)
  by_cases c8 : n < 18
  · exact List.all_eq_true.1 t4_8 n (by simp; omega)
  exact List.all_eq_true.1 t4_9 n (by simp; omega)
theorem hk0 (n : Nat) (hn : n < 20) : decide (hx 0 n = some (tabv 0 n)) = true := by
  by_cases c0 : n < 2
  · exact List.all_eq_true.1 h0_0 n (by simp; omega)
  by_cases c1 : n < 4
  · exact List.all_eq_true.1 h0_1 n (by simp; omega)
  by_cases c2 : n < 6
  · exact List.all_eq_true.1 h0_2 n (by simp; omega)
  by_cases c3 : n < 8
  · exact List.all_eq_true.1 h0_3 n (by simp; omega)
  by_cases c4 : n < 10
  · exact List.all_eq_true.1 h0_4 n (by simp; omega)
  by_cases c5 : n < 12
  · exact List.all_eq_true.1 h0_5 n (by simp; omega)
  by_cases c6 : n < 14
  · exact List.all_eq_true.1 h0_6 n (by simp; omega)
  by_cases c7 : n < 16
  · exact List.all_eq_true.1 h0_7 n (by simp; omega)
  by_cases c8 : n < 18
  · exact List.all_eq_true.1 h0_8 n (by simp; omega)
  exact List.all_eq_true.1 h0_9 n (by simp; omega)
theorem hk1 (n : Nat) (hn : n < 20) : decide (hx 1 n = some (tabv 1 n)) = true := by
  by_cases c0 : n < 2
  · exact List.all_eq_true.1 h1_0 n (by simp; omega)
  by_cases c1 : n < 4
  · exact List.all_eq_true.1 h1_1 n (by simp; omega)
  by_cases c2 : n < 6
  · exact List.all_eq_true.1 h1_2 n (by simp; omega)
  by_cases c3 : n < 8
  · exact List.all_eq_true.1 h1_3 n (by simp; omega)
  by_cases c4 : n < 10
  · exact List.all_eq_true.1 h1_4 n (by simp; omega)
  by_cases c5 : n < 12
  · exact List.all_eq_true.1 h1_5 n (by simp; omega)
  by_cases c6 : n < 14
  · exact List.all_eq_true.1 h1_6 n (by simp; omega)
  by_cases c7 : n < 16
  · exact List.all_eq_true.1 h1_7 n (by simp; omega)
  by_cases c8 : n < 18
  · exact List.all_eq_true.1 h1_8 n (by simp; omega)
  exact List.all_eq_true.1 h1_9 n (by simp; omega)
theorem hk2 (n : Nat) (hn : n < 20) : decide (hx 2 n = some (tabv 2 n)) = true := by
  by_cases c0 : n < 2
  · exact List.all_eq_true.1 h2_0 n (by simp; omega)
  by_cases c1 : n < 4
  · exact List.all_eq_true.1 h2_1 n (by simp; omega)
  by_cases c2 : n < 6
  · exact List.all_eq_true.1 h2_2 n (by simp; omega)
  by_cases c3 : n < 8
  · exact List.all_eq_true.1 h2_3 n (by simp; omega)
  by_cases c4 : n < 10
  · exact List.all_eq_true.1 h2_4 n (by simp; omega)
  by_cases c5 : n < 12
  · exact List.all_eq_true.1 h2_5 n (by simp; omega)
  by_cases c6 : n < 14
  · exact List.all_eq_true.1 h2_6 n (by simp; omega)
  by_cases c7 : n < 16
  · exact List.all_eq_true.1 h2_7 n (by simp; omega)
  by_cases c8 : n < 18
  · exact List.all_eq_true.1 h2_8 n (by simp; omega)
  exact List.all_eq_true.1 h2_9 n (by simp; omega)
theorem hk3 (n : Nat) (hn : n < 20) : decide (hx 3 n = some (tabv 3 n)) = true := by
  by_cases c0 : n < 2
  · exact List.all_eq_true.1 h3_0 n (by simp; omega)
  by_cases c1 : n < 4
  · exact List.all_eq_true.1 h3_1 n (by simp; omega)
  by_cases c2 : n < 6
  · exact List.all_eq_true.1 h3_2 n (by simp; omega)
  by_cases c3 : n < 8
  · exact List.all_eq_true.1 h3_3 n (by simp; omega)
  by_cases c4 : n < 10
  · exact List.all_eq_true.1 h3_4 n (by simp; omega)
  by_cases c5 : n < 12
  · exact List.all_eq_true.1 h3_5 n (by simp; omega)
  by_cases c6 : n < 14
  · exact List.all_eq_true.1 h3_6 n (by simp; omega)
  by_cases c7 : n < 16
  · exact List.all_eq_true.1 h3_7 n (by simp; omega)
  by_cases c8 : n < 18
  · exact List.all_eq_true.1 h3_8 n (by simp; omega)
  exact List.all_eq_true.1 h3_9 n (by simp; omega)
theorem hk4 (n : Nat) (hn : n < 20) : decide (hx 4 n = some (tabv 4 n)) = true := by
  by_cases c0 : n < 2
  · exact List.all_eq_true.1 h4_0 n (by simp; omega)
  by_cases c1 : n < 4
  · exact List.all_eq_true.1 h4_1 n (by simp; omega)
  by_cases c2 : n < 6
  · exact List.all_eq_true.1 h4_2 n (by simp; omega)
  by_cases c3 : n < 8
  · exact List.all_eq_true.1 h4_3 n (by simp; omega)
  by_cases c4 : n < 10
  · exact List.all_eq_true.1 h4_4 n (by simp; omega)
  by_cases c5 : n < 12
  · exact List.all_eq_true.1 h4_5 n (by simp; omega)
  by_cases c6 : n < 14
  · exact List.all_eq_true.1 h4_6 n (by simp; omega)
  by_cases c7 : n < 16
  · exact List.all_eq_true.1 h4_7 n (by simp; omega)
  by_cases c8 : n < 18
  · exact List.all_eq_true.1 h4_8 n (by simp; omega)
  exact List.all_eq_true.1 h4_9 n (by simp; omega)
theorem in_tells (k n : Nat) (hk : k < 5) (hn : n < 20) : law26_FamilyTells K ((k : Int), ((n + 1 : Nat) : Int)) = some true := by
  have : k = 0 ∨ k = 1 ∨ k = 2 ∨ k = 3 ∨ k = 4 := by omega
  rcases this with rfl | rfl | rfl | rfl | rfl
  · exact isT_iff (tk0 n hn)
  · exact isT_iff (tk1 n hn)
  · exact isT_iff (tk2 n hn)
  · exact isT_iff (tk3 n hn)
  · exact isT_iff (tk4 n hn)
theorem in_hash (k n : Nat) (hk : k < 5) (hn : n < 20) : hx k n = some (tabv k n) := by
  have : k = 0 ∨ k = 1 ∨ k = 2 ∨ k = 3 ∨ k = 4 := by omega
  rcases this with rfl | rfl | rfl | rfl | rfl
  · exact of_decide_eq_true (hk0 n hn)
  · exact of_decide_eq_true (hk1 n hn)
  · exact of_decide_eq_true (hk2 n hn)
  · exact of_decide_eq_true (hk3 n hn)
  · exact of_decide_eq_true (hk4 n hn)
theorem tabs {k n l m : Nat} (hk : k < 5) (hn : n < 20) (hl : l < 5) (hm : m < 20) (h : tabv k n = tabv l m) : k = l ∧ n = m := by
  have h1 := List.all_eq_true.1 tab_inj k (List.mem_range.2 hk)
  have h2 := List.all_eq_true.1 h1 n (List.mem_range.2 hn)
  have h3 := List.all_eq_true.1 h2 l (List.mem_range.2 hl)
  have h4 := List.all_eq_true.1 h3 m (List.mem_range.2 hm)
  rw [h] at h4
  simp only [Bool.or_eq_true, Bool.and_eq_true, Bool.not_eq_true', Nat.beq_eq_true_eq] at h4
  rcases h4 with h4 | h4
  · rw [Nat.beq_refl] at h4; cases h4
  · exact ⟨Nat.eq_of_beq_eq_true h4.1, Nat.eq_of_beq_eq_true h4.2⟩
def InF (k n : Int) : Prop := 0 ≤ k ∧ k ≤ 4 ∧ 1 ≤ n ∧ n ≤ 20
theorem in_nat {k n : Int} (h : InF k n) : ∃ a b : Nat, a < 5 ∧ b < 20 ∧ k = (a : Int) ∧ n = ((b + 1 : Nat) : Int) :=
  ⟨k.toNat, n.toNat - 1, by have := h.1; have := h.2.1; omega, by have := h.2.2.1; have := h.2.2.2; omega, by have := h.1; omega, by have := h.2.2.1; omega⟩
theorem of_out {k n : Int} (h : ¬ InF k n) : family_of K (k, n) = some (([], (0, 0), 0), false) := by
  unfold family_of
  try dsimp only
  rw [Ty.ilt_dec, Ty.cond_dec, Ty.ile_dec, Ty.cond_dec, Ty.ilt_dec, Ty.cond_dec, Ty.ilt_dec, Ty.cond_dec]
  by_cases a : k < 0
  · rw [if_pos a]
  · by_cases b : 5 ≤ k
    · rw [if_neg a, if_pos b]
    · by_cases c : n < 1
      · rw [if_neg a, if_neg b, if_pos c]
      · by_cases d : 20 < n
        · rw [if_neg a, if_neg b, if_neg c, if_pos d]
        · exact absurd ⟨by omega, by omega, by omega, by omega⟩ h
theorem is_out {k n : Int} (h : ¬ InF k n) : ref26_Is K (k, n) = some false := by
  unfold ref26_Is
  try dsimp only
  rw [Ty.ile_dec, Ty.cond_dec, Ty.ile_dec, Ty.cond_dec, Ty.ile_dec, Ty.cond_dec, Ty.ile_dec]
  by_cases a : 0 ≤ k
  · by_cases b : k ≤ 4
    · by_cases c : 1 ≤ n
      · rw [if_pos a, if_pos b, if_pos c, decide_eq_false (fun d => h ⟨a, b, c, d⟩)]
      · rw [if_pos a, if_pos b, if_neg c]
    · rw [if_pos a, if_neg b]
  · rw [if_neg a]
theorem text_out {k n : Int} (h : ¬ InF k n) : family_Text K (k, n) = some ⟨#[]⟩ := by
  unfold family_Text
  try dsimp only
  rw [of_out h]
  rfl
theorem tells26 (x : Int × Int) : law26_FamilyTells K x = some true := by
  obtain ⟨k, n⟩ := x
  by_cases h : InF k n
  · obtain ⟨a, b, ha, hb, rfl, rfl⟩ := in_nat h
    exact in_tells a b ha hb
  · have e1 : ref26_Text K (k, n) = some ⟨#[]⟩ := by unfold ref26_Text; try dsimp only
                                                     rw [is_out h]; rfl
    have e2 : family_Value K (k, n) = some (0, 0) := by unfold family_Value; try dsimp only
                                                        rw [of_out h]; rfl
    have e3 : ref26_Value K (k, n) = some (0, 0) := by unfold ref26_Value; try dsimp only
                                                       rw [is_out h]; rfl
    have e4 : family_Steps K (k, n) = some 0 := by unfold family_Steps; try dsimp only
                                                   rw [of_out h]; rfl
    have e5 : ref26_Steps K (k, n) = some 0 := by unfold ref26_Steps; try dsimp only
                                                  rw [is_out h]; rfl
    unfold law26_FamilyTells
    try dsimp only
    rw [fixed26, bind_some, cond_true, text_out h, bind_some, e1, bind_some, show P.seq ⟨#[]⟩ ⟨#[]⟩ = true from rfl, cond_true, e2, bind_some, e3, bind_some, show P.and (P.ieq 0 0) (P.ieq 0 0) = true from rfl, cond_true, e4, bind_some, e5, bind_some]
    rfl
theorem text_in {a b : Nat} (ha : a < 5) (hb : b < 20) : ∃ t, family_Text K ((a : Int), ((b + 1 : Nat) : Int)) = some t ∧ hash t = tabv a b := by
  have h := in_hash a b ha hb
  unfold hx tx at h
  cases e : family_Text K ((a : Int), ((b + 1 : Nat) : Int)) with
  | none => rw [e] at h; cases h
  | some t => rw [e] at h; injection h with h; exact ⟨t, rfl, h⟩
theorem unlike26 (x : Int × Int × Int × Int) : law26_FamilyUnlike K x = some true := by
  obtain ⟨k, n, l, m⟩ := x
  have e00 : P.ieq ((0 : Int)) ((0 : Int)) = true := by decide
  have e10 : P.ieq ((1 : Int)) ((0 : Int)) = false := by decide
  have e11 : P.ieq ((1 : Int)) ((1 : Int)) = true := by decide
  have e20 : P.ieq ((2 : Int)) ((0 : Int)) = false := by decide
  have e21 : P.ieq ((2 : Int)) ((1 : Int)) = false := by decide
  have e22 : P.ieq ((2 : Int)) ((2 : Int)) = true := by decide
  have e30 : P.ieq ((3 : Int)) ((0 : Int)) = false := by decide
  have e31 : P.ieq ((3 : Int)) ((1 : Int)) = false := by decide
  have e32 : P.ieq ((3 : Int)) ((2 : Int)) = false := by decide
  have e33 : P.ieq ((3 : Int)) ((3 : Int)) = true := by decide
  unfold law26_FamilyUnlike
  try dsimp only
  rw [e00, cond_true, e10, cond_false, e11, cond_true, e20, cond_false, e21, cond_false, e22, cond_true, e30, cond_false, e31, cond_false, e32, cond_false, e33, cond_true]
  have nil : P.seq ⟨#[]⟩ ⟨#[]⟩ = true := rfl
  by_cases h1 : InF k n
  · by_cases h2 : InF l m
    · obtain ⟨a, b, ha, hb, rfl, rfl⟩ := in_nat h1
      obtain ⟨c, d, hc, hd, rfl, rfl⟩ := in_nat h2
      obtain ⟨s, es, hs⟩ := text_in ha hb
      obtain ⟨t, et, ht⟩ := text_in hc hd
      rw [es, bind_some, et, bind_some, fixed26, bind_some, cond_true]
      cases P.seq s ⟨#[]⟩ with
      | true => rfl
      | false =>
        rw [cond_false]
        cases P.seq t ⟨#[]⟩ with
        | true => rfl
        | false =>
          rw [cond_false]
          by_cases e : a = c ∧ b = d
          · obtain ⟨rfl, rfl⟩ := e
            rw [es] at et
            injection et with et
            subst et
            rw [show P.ieq (a : Int) (a : Int) = true from ieq_iff.2 rfl, cond_true, show P.ieq ((b + 1 : Nat) : Int) ((b + 1 : Nat) : Int) = true from ieq_iff.2 rfl, show P.seq s s = true from seq_iff.2 rfl]
            rfl
          · have ne : P.seq s t = false := by
              rw [Bool.eq_false_iff]
              intro z
              have z := seq_iff.1 z
              exact e (tabs ha hb hc hd (by rw [← hs, ← ht, z]))
            rw [ne]
            by_cases g : a = c
            · have : P.ieq ((b + 1 : Nat) : Int) ((d + 1 : Nat) : Int) = false := by
                rw [Bool.eq_false_iff, Ne, ieq_iff]
                exact fun z => e ⟨g, by omega⟩
              rw [this]
              cases P.ieq (a : Int) (c : Int) <;> rfl
            · rw [show P.ieq (a : Int) (c : Int) = false from by rw [Bool.eq_false_iff, Ne, ieq_iff]; omega]
              rfl
    · obtain ⟨a, b, ha, hb, rfl, rfl⟩ := in_nat h1
      obtain ⟨s, es, hs⟩ := text_in ha hb
      rw [es, bind_some, text_out h2, bind_some, fixed26, bind_some, cond_true, nil, cond_true]
      cases P.seq s ⟨#[]⟩ <;> rfl
  · rw [text_out h1, bind_some]
    by_cases h2 : InF l m
    · obtain ⟨c, d, hc, hd, rfl, rfl⟩ := in_nat h2
      obtain ⟨t, et, ht⟩ := text_in hc hd
      rw [et, bind_some, fixed26, bind_some, cond_true, nil, cond_true]
    · rw [text_out h2, bind_some, fixed26, bind_some, cond_true, nil, cond_true]
end Go.PL.Fa
end

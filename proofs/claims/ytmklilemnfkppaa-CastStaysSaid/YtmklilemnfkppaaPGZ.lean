/- A law's row, out of what the law does with data. -/
import Derived.Test.YtmklilemnfkppaaPGY
import Derived.WalkKit
import Derived.ProofKit
import Derived.Below
import Derived.Carry
import Derived.SizedLaws
import Derived.RowKit
set_option linter.all false
namespace Go.PG
open Go.RowKit Go.ChangeShapes

variable {P : Program} {w : World} {H : Type} {enc : TypeId × Value → H}

/-- A chain of types, one for each parameter. -/
def ArgsOk (P : Program) : Ty → List TypeId → Prop
  | .unit, ts => ts = []
  | .pair a b, ts => ∃ t r, ts = t :: r ∧ Ok P a (.typ t) ∧ readTy a = true ∧ ArgsOk P b r
  | a, ts => ∃ t, ts = [t] ∧ Ok P a (.typ t) ∧ readTy a = true

theorem dataOf {base : Nat} {t : Ty} {id : TypeId} (hok : Ok P t (.typ id)) (hr : readTy t = true) {v : Value} (hv : Value.okWide P w .any base id v) {d : DataW H} {ps : List MemPlace} (h : DataW.Trod enc P w 0 (fun _ => true) true id v d ps) :
    ∃ y : t.D, RepDV (fun _ => False) w t y v ∧ Wf t y := by
  obtain ⟨fuel, h⟩ := h
  obtain ⟨y, h1, h2⟩ := (read_all t).1 id fuel _ _ hok hr h
  refine ⟨y, ?_, h2⟩
  have one : isSt t = false → v.cells = #[v] → RepDV (fun _ => False) w t y v := by
    intro hs hc
    rw [hc] at h1
    exact .inr ⟨hs, h1⟩
  cases t with
  | unit => exact hok.elim
  | pair a b => exact hok.elim
  | opq => simp [readTy] at hr
  | bool => obtain ⟨b, rfl⟩ := Go.WideShapes.okWide_bool hok.1 hv; exact one rfl rfl
  | int k => obtain ⟨n, rfl⟩ := Go.WideShapes.okWide_int hok.1 hv; exact one rfl rfl
  | str => obtain ⟨n, rfl⟩ := Go.WideShapes.okWide_string hok.1 hv; exact one rfl rfl
  | slice e => obtain ⟨⟨e', hu, _⟩, _⟩ := hok; obtain ⟨_, _, _, rfl⟩ := Go.WideShapes.okWide_slice hu hv; exact one rfl rfl
  | st b =>
    obtain ⟨hk, _⟩ := hok
    have : ∃ cs, v = .agg cs := by
      rcases hk with ⟨fs, hu, _⟩ | ⟨n, e, hu, _⟩
      · simp only [Value.okWide, hu] at hv
        obtain ⟨cs, e, _⟩ := hv
        exact ⟨cs, e⟩
      · simp only [Value.okWide, hu] at hv
        obtain ⟨cs, e, _⟩ := hv
        exact ⟨cs, e⟩
    obtain ⟨cs, rfl⟩ := this
    exact .inl ⟨rfl, cs, rfl, h1⟩

theorem argsOf {base : Nat} : ∀ (t : Ty) (ts : List TypeId) (vs : List Value) (ds : List (DataW H)) (ps : List MemPlace), ArgsOk P t ts → (∀ (j : Nat) id v, ts[j]? = some id → vs[j]? = some v → Value.okWide P w .any base id v) →
    DataW.TrodAll enc P w 0 (fun _ => true) true ts vs ds ps → ∃ x : t.D, RepT (cz (fun _ => False) w) (argAV t x) vs ∧ Wf t x := by
  have one : ∀ (t : Ty) (id : TypeId) (vs : List Value) (ds : List (DataW H)) (ps : List MemPlace), Ok P t (.typ id) → readTy t = true → (∀ (j : Nat) id' v, [id][j]? = some id' → vs[j]? = some v → Value.okWide P w .any base id' v) →
      DataW.TrodAll enc P w 0 (fun _ => true) true [id] vs ds ps → ∃ x : t.D, RepT (cz (fun _ => False) w) (.data t x) vs ∧ Wf t x := by
    intro t id vs ds ps hok hr hv h
    obtain ⟨v, vs', d, ds', p, q, rfl, rfl, rfl, h1, h2⟩ := trodAll_cons h
    obtain ⟨rfl, rfl, rfl⟩ := trodAll_nil h2
    obtain ⟨y, h3, h4⟩ := dataOf hok hr (hv 0 id v rfl rfl) h1
    refine ⟨y, ?_, h4⟩
    rw [repT_data, cz_Zeq]
    exact ⟨v, rfl, h3⟩
  intro t
  induction t with
  | unit =>
    intro ts vs ds ps ha hv h
    have ha : ts = [] := ha
    subst ha
    obtain ⟨rfl, rfl, rfl⟩ := trodAll_nil h
    exact ⟨(), by simp only [argAV, RepT], trivial⟩
  | pair a b iha ihb =>
    intro ts vs ds ps ha hv h
    obtain ⟨id, r, rfl, hok, hr, hb⟩ := ha
    obtain ⟨v, vs', d, ds', p, q, rfl, rfl, rfl, h1, h2⟩ := trodAll_cons h
    obtain ⟨y, h3, h4⟩ := dataOf hok hr (hv 0 id v rfl rfl) h1
    obtain ⟨z, h5, h6⟩ := ihb r vs' ds' q hb (fun j id' v' q1 q2 => hv (j + 1) id' v' (by simpa using q1) (by simpa using q2)) h2
    refine ⟨(y, z), ?_, h4, h6⟩
    simp only [argAV, RepT, RepV]
    rw [cz_Zeq]
    exact ⟨v, vs', rfl, h3, h5⟩
  | bool => intro ts vs ds ps ha hv h; obtain ⟨id, rfl, hok, hr⟩ := ha; exact one _ id vs ds ps hok hr hv h
  | int k => intro ts vs ds ps ha hv h; obtain ⟨id, rfl, hok, hr⟩ := ha; exact one _ id vs ds ps hok hr hv h
  | str => intro ts vs ds ps ha hv h; obtain ⟨id, rfl, hok, hr⟩ := ha; exact one _ id vs ds ps hok hr hv h
  | opq => intro ts vs ds ps ha hv h; obtain ⟨id, rfl, hok, hr⟩ := ha; exact one _ id vs ds ps hok hr hv h
  | slice e _ => intro ts vs ds ps ha hv h; obtain ⟨id, rfl, hok, hr⟩ := ha; exact one _ id vs ds ps hok hr hv h
  | st b _ => intro ts vs ds ps ha hv h; obtain ⟨id, rfl, hok, hr⟩ := ha; exact one _ id vs ds ps hok hr hv h

/-- The arguments behind a call that leaves old memory as it was. -/
theorem argsBack {W W' : World} (hl : laidOutB P = true) (hb : Below W.heap.size W W') : ∀ (ts : List TypeId) (vs : List Value) (ds : List (DataW H)) (ps : List MemPlace), (∀ t, t ∈ ts → P.readableRec t = true ∧ t < P.types.size) →
    DataW.TrodAll enc P W 0 (fun _ => true) true ts vs ds ps → DataW.TrodAll enc P W' 0 (fun b => decide (b < W.heap.size)) true ts vs ds ps := by
  intro ts
  induction ts with
  | nil => intro vs ds ps _ h; obtain ⟨rfl, rfl, rfl⟩ := trodAll_nil h; exact trodAll_mk0
  | cons t ts ih =>
    intro vs ds ps ht h
    obtain ⟨v, vs', d, ds', p, q, rfl, rfl, rfl, h1, h2⟩ := trodAll_cons h
    have hlt : ∀ x ∈ p, x.block < W.heap.size := by
      obtain ⟨m, hm⟩ := h1
      exact DataW.trod_lt m _ _ _ hm
    obtain ⟨r1, r2⟩ := ht t (by simp)
    exact trodAll_cons_mk (Below.trod hl r1 r2 h1 hb hlt) (ih vs' ds' q (fun u hu => ht u (List.mem_cons_of_mem _ hu)) h2)

/-- What a law's row asks of a call, where the law is true of all data that a condition lets in. -/
theorem rowContract {f : FuncId} {fn : Func} {t : Ty} {F : t.D → Option Bool} {rt : TypeId} {s : ChangeSpec} {base : Nat} {W : World} {args : Array Value} {ds gs : List (DataW H)} {before : List MemPlace}
    (hs : SpecOk P (fun _ => True) f ⟨t, .bool, F⟩) (hl : laidOutB P = true) (hp : ArgsOk P t fn.params.toList) (hread : ∀ t, t ∈ fn.params.toList → P.readableRec t = true ∧ t < P.types.size)
    (hres : fn.resultTypes = #[rt]) (hrt : P.underlying rt = some .bool) (hvars : s.vars = []) (hfn : ∀ ds : List (DataW H), ds.length = fn.params.toList.length → s.fn H ds = { results := [.lit (.bool true)], args := ds })
    (hval : ∀ (j : Nat) t v, fn.params[j]? = some t → args[j]? = some v → Value.okWide P W .any base t v) (hW : DataW.Whole enc P fn.params.toList s.vars false W args.toList ds gs before)
    (hF : ∀ x, Wf t x → F x = some true) :
    Calls P f args W fun e W' => ∃ v, e = .returned v ∧ s.post enc P fn false true false false W args v W' := by
  have hW' := hW
  obtain ⟨p, q, hA, hV, rfl, hfz, hnd⟩ := hW
  rw [hvars] at hV
  obtain ⟨rfl, rfl⟩ := trodVars_none hV
  obtain ⟨x, hx, hwf⟩ := argsOf t _ _ _ _ hp (fun j id v h1 h2 => hval j id v (by rw [← Array.getElem?_toList]; exact h1) (by rw [← Array.getElem?_toList]; exact h2)) hA
  refine (hs (fun _ => False) W args x true trivial (fun _ h => h.elim) (hF x hwf) hx).mono fun e W' ⟨v, he, bel, hv⟩ => ⟨v, he, ?_⟩
  have hv : v = .bool true := repV_bool (by simpa only [resAV] using hv)
  subst hv
  have hlen : ds.length = fn.params.toList.length := by
    have : ∀ (ts : List TypeId) (vs : List Value) (ds : List (DataW H)) (ps : List MemPlace), DataW.TrodAll enc P W 0 (fun _ => true) true ts vs ds ps → ds.length = ts.length := by
      intro ts
      induction ts with
      | nil => intro vs ds ps h; obtain ⟨_, rfl, _⟩ := trodAll_nil h; rfl
      | cons t ts ih =>
        intro vs ds ps h
        obtain ⟨v, vs', d, ds', p, q, rfl, rfl, rfl, h1, h2⟩ := trodAll_cons h
        simp [ih _ _ _ h2]
    exact this _ _ _ _ hA
  refine ⟨ds, [], _, [], p, [], hW', ?_, ?_, ?_, bel.frame _, fun h => by cases h⟩
  · rw [List.append_nil, hfn ds hlen, hres]
    exact trodAll_mk1 (shut_bool hrt _)
  · rw [List.append_nil, hfn ds hlen]
    exact argsBack hl bel _ _ _ _ hread hA
  · rw [List.append_nil, hfn ds hlen, hvars]
    rfl
end Go.PG
namespace Go.PG
def argsOkB (P : Program) : Ty → List TypeId → Bool
  | .unit, ts => match ts with
    | [] => true
    | _ => false
  | .pair a b, ts => match ts with
    | t :: r => match okB P a (.typ t), readTy a with
      | true, true => argsOkB P b r
      | _, _ => false
    | [] => false
  | a, ts => match ts with
    | [t] => match okB P a (.typ t), readTy a with
      | true, true => true
      | _, _ => false
    | _ => false
theorem ArgsOk.of_b {P : Program} : ∀ {t : Ty} {ts : List TypeId}, argsOkB P t ts = true → ArgsOk P t ts := by
  have one : ∀ {a : Ty} {ts : List TypeId}, (match ts with
      | [t] => match okB P a (.typ t), readTy a with
        | true, true => true
        | _, _ => false
      | _ => false) = true → ∃ t, ts = [t] ∧ Ok P a (.typ t) ∧ readTy a = true := by
    intro a ts h
    split at h
    · rename_i t
      split at h
      · rename_i h1 h2
        exact ⟨t, rfl, okB_spec h1, h2⟩
      · cases h
    · cases h
  intro t
  induction t with
  | unit =>
    intro ts h
    simp only [argsOkB] at h
    split at h
    · rfl
    · cases h
  | pair a b _ ihb =>
    intro ts h
    simp only [argsOkB] at h
    split at h
    · split at h
      · rename_i h1 h2
        exact ⟨_, _, rfl, okB_spec h1, h2, ihb h⟩
      · cases h
    · cases h
  | _ => intro ts h; exact one (by simpa only [argsOkB] using h)
def readB (P : Program) : List TypeId → Bool
  | [] => true
  | t :: r => match P.readableRec t, Nat.blt t P.types.size with
    | true, true => readB P r
    | _, _ => false
theorem readable_of_b {P : Program} : ∀ {ts : List TypeId}, readB P ts = true → ∀ t, t ∈ ts → P.readableRec t = true ∧ t < P.types.size := by
  intro ts
  induction ts with
  | nil => intro _ t h; cases h
  | cons u r ih =>
    intro h t ht
    simp only [readB] at h
    split at h
    · rename_i h1 h2
      rcases List.mem_cons.1 ht with rfl | ht
      · exact ⟨h1, by simpa [Nat.blt_eq] using h2⟩
      · exact ih h t ht
    · cases h
end Go.PG

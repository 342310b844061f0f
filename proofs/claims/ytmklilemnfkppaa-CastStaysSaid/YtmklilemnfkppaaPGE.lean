/- The evaluator's soundness: operations. -/
import Derived.Test.YtmklilemnfkppaaPGO
set_option linter.all false
namespace Go.PG
open Go.RowKit

/-! ### constants -/
theorem ofCell_rep {c : Cx} {t : Ty} {v : Value} {a : AV} (h : ofCell t v = some a) : RepC c a [v] ∧ fitsT a t = true := by
  cases t with
  | bool =>
    cases v <;> simp [ofCell] at h
    subst h; simp [RepC, RepD, fitsT]
  | int k =>
    cases v <;> simp [ofCell] at h
    rename_i k' n
    by_cases e : k' = k
    · subst e; simp at h; subst h; simp [RepC, RepD, fitsT]
    · simp [e] at h
  | str =>
    cases v <;> simp [ofCell] at h
    subst h; simp [RepC, RepD, fitsT]
  | slice e =>
    cases v with
    | slice A n m =>
      cases A with
      | some a => simp [ofCell] at h
      | none => cases n with
        | succ n => simp [ofCell] at h
        | zero => cases m with
          | succ m => simp [ofCell] at h
          | zero => simp [ofCell] at h; subst h; simp [RepC, Rep1, fitsT]
    | _ => simp [ofCell] at h
  | opq =>
    cases v <;> simp [ofCell] at h <;> subst h <;> simp [RepC, fitsT, Value.oneCell']
  | _ => simp [ofCell] at h

theorem ofCells_rep {c : Cx} : ∀ (t : Ty) (cs r : List Value) (a : AV), ofCells t cs = some (a, r) → ∃ c1, cs = c1 ++ r ∧ RepC c a c1 ∧ fitsT a t = true := by
  intro t
  induction t with
  | st b ih =>
    intro cs r a h
    simp only [ofCells] at h
    split at h
    · rename_i x r' hx
      injection h with h
      injection h with h1 h2
      subst h1; subst h2
      obtain ⟨c1, e, h1, h2⟩ := ih cs r' x hx
      obtain ⟨h3, h4⟩ := mkSt_rep h1 h2
      exact ⟨c1, e, h3, h4⟩
    · cases h
  | pair a b iha ihb =>
    intro cs r u h
    simp only [ofCells] at h
    split at h
    · rename_i x r' hx
      split at h
      · rename_i y r'' hy
        injection h with h
        injection h with h1 h2
        subst h1; subst h2
        obtain ⟨c1, rfl, h1, h2⟩ := iha cs r' x hx
        obtain ⟨c2, rfl, h3, h4⟩ := ihb r' r'' y hy
        obtain ⟨h5, h6⟩ := mkPr_rep h1 h3 h2 h4
        exact ⟨c1 ++ c2, by simp, h5, h6⟩
      · cases h
    · cases h
  | _ =>
    intro cs r a h
    cases cs with
    | nil => simp [ofCells] at h
    | cons v l =>
      simp only [ofCells] at h
      split at h
      · rename_i x hx
        injection h with h
        injection h with h1 h2
        subst h1; subst h2
        obtain ⟨h1, h2⟩ := ofCell_rep (c := c) hx
        exact ⟨[v], rfl, h1, h2⟩
      · cases h

theorem ofCells_nopair {t : Ty} {cs r : List Value} {a : AV} : True := trivial

theorem const_rep {c : Cx} (ty : Option Ty) (hp : ∀ a b, ty ≠ some (.pair a b)) (v : Value) : RepV c (constAV ty v) v := by
  cases ty with
  | none => cases v <;> simp [constAV, RepV, RepD, isSt]
  | some t =>
    have hp' : ∀ a b, t ≠ .pair a b := fun a b e => hp a b (by rw [e])
    have key : ∀ (cs : List Value), valOf t cs v → RepV c (match ofCells t cs with | some (a, []) => a | _ => AV.undef) v := by
      intro cs hv
      split
      · rename_i a ha
        obtain ⟨c1, e, h1, h2⟩ := ofCells_rep (c := c) t _ _ _ ha
        simp at e
        subst e
        exact repC_repV h2 hp' h1 hv
      · simp only [RepV]
    cases hs : isSt t with
    | true =>
      cases v with
      | agg cs => simp only [constAV, hs]; exact key cs.toList (.inl ⟨hs, by simp⟩)
      | _ => simp [constAV, hs, RepV]
    | false =>
      cases v with
      | agg cs => simp [constAV, hs, RepV]
      | tuple vs => simp [constAV, RepV]
      | _ => simp only [constAV, hs]; exact key _ (.inr ⟨hs, rfl⟩)

theorem opnd_rep {c : Cx} {fr : Nat → AV} {a : Act} (F : ∀ t, RepV c (fr t) (a.tmps.getD t undef)) (ty : Option Ty) (hp : ∀ a b, ty ≠ some (.pair a b)) (x : Operand) : RepV c (opnd ty fr x) (a.eval x) := by
  cases x with
  | tmp t => exact F t
  | const v => exact const_rep ty hp v
  | global g => simp only [opnd, RepV]
  | func f => simp only [opnd, RepV, Act.eval]; exact ⟨#[], rfl, by simp [RepT]⟩

/-! ### the environment -/
/-- A context in which nobody owns anything. -/
def cz (Z : Nat → Prop) (w : World) : Cx := ⟨Z, w, fun _ => none, fun _ => .box 0, 0⟩

theorem cz_Z (Z : Nat → Prop) (w : World) (b : Nat) : (cz Z w).Z b ↔ Z b := by
  constructor
  · rintro (z | ⟨id, e, q, _⟩)
    · exact z
    · cases q
  · exact .inl

/-- What a function is known to do: of data, in whatever memory, it gives data. -/
def SpecOk (P : Program) (G : World → Prop) (f : FuncId) (s : Spec) : Prop :=
  ∀ (Z : Nat → Prop) (w : World) (vals : Array Value) (x : s.a.D) (r : s.r.D), G w → (∀ b, Z b → b < w.heap.size) → s.F x = some r → RepT (cz Z w) (argAV s.a x) vals.toList →
    Calls P f vals w fun e w' => ∃ v, e = .returned v ∧ Below w.heap.size w w' ∧ RepV (cz Z w') (resAV s.r r) v

/-- What a function that lays one box is known to do. -/
def MakerOk (P : Program) (G : World → Prop) (g : FuncId) (m : Maker) : Prop :=
  ∀ w : World, G w → Calls P g #[] w fun e w' => ∃ v b z t, e = .returned v ∧ Below w.heap.size w w' ∧ w.heap.size ≤ b ∧ w'.heap[b]? = some (.cells z t (0, 0)) ∧ (∀ c : Cx, RepC c m.v z.toList) ∧ fitsT m.v m.L = true ∧
    ∀ (c : Cx) (id : Nat), id < c.nx → c.M id = .box b → c.h id = some (.box m.v m.L) → RepV c (m.f id) v

structure EnvOk (P : Program) (G : World → Prop) (E : Env) : Prop where
  ty : ∀ t ty, E.ty t = some ty → Ok P ty (.typ t)
  bytes : ∀ t r e, look E.T t = some r → r.ty = .slice e → ∃ e' i, P.underlying t = some (.slice e') ∧ P.info? e' = some i ∧ i.bytes = r.bytes ∧ Ok P e (.typ e') ∧ 0 < r.bytes
  eq : ∀ t r, look E.T t = some r → r.eq = true → Eqs P r.ty (.typ t) ∧ nest r.ty ≤ 9000
  specs : ∀ f s, look E.specs f = some s → SpecOk P G f s ∧ (P.funcs[f]?).any (fun fn => fn.name != "runtime.NumGoroutine" && fn.body.isSome) = true
  codes : ∀ f fn hs, look E.codes f = some (fn, hs) → P.funcs[f]? = some fn ∧ (fn.name != "runtime.NumGoroutine" && fn.body.isSome) = true
  arr : ∀ t r b, look E.T t = some r → r.ty = .st b → (r.arr = true → ∃ n e, P.underlying t = some (.array n e)) ∧ (r.arr = false → ∃ fs, P.underlying t = some (.struct fs))
  lays : ∀ f m, look E.lays f = some m → MakerOk P G f m ∧ (P.funcs[f]?).any (fun fn => fn.name != "runtime.NumGoroutine" && fn.body.isSome) = true
  mixed : P.follows .mixedOrders = true
  G : ∀ w w', G w → Below w.heap.size w w' → G w'

theorem EnvOk.row {E : Env} {t : TypeId} {ty : Ty} (h : E.ty t = some ty) : ∃ r, look E.T t = some r ∧ r.ty = ty := by
  unfold Env.ty at h
  split at h
  · rename_i r e
    injection h with h
    exact ⟨r, e, h⟩
  · cases h
theorem EnvOk.struct {P : Program} {G : World → Prop} {E : Env} (h : EnvOk P G E) {t : TypeId} {b : Ty} (hty : E.ty t = some (.st b)) (ha : isArr E t = false) : ∃ fs, P.underlying t = some (.struct fs) := by
  obtain ⟨r, h1, h2⟩ := EnvOk.row hty
  simp only [isArr, h1] at ha
  exact (h.arr t r b h1 h2).2 ha
theorem EnvOk.array {P : Program} {G : World → Prop} {E : Env} (h : EnvOk P G E) {t : TypeId} {b : Ty} (hty : E.ty t = some (.st b)) (ha : isArr E t = true) : ∃ n e, P.underlying t = some (.array n e) := by
  obtain ⟨r, h1, h2⟩ := EnvOk.row hty
  simp only [isArr, h1] at ha
  exact (h.arr t r b h1 h2).1 ha
theorem EnvOk.noPair {P : Program} {G : World → Prop} {E : Env} (h : EnvOk P G E) (t : TypeId) : ∀ a b, E.ty t ≠ some (.pair a b) := fun _ _ e => h.ty t _ e

/-! ### what an operation does -/
def Does (P : Program) (o : Oper) (a : Act) (w : World) (R : Value → World → Prop) : Prop :=
  ∀ (next : Act → World → Prop) (Q : Exit → Act → World → Prop), (∀ v w', R v w' → next (a.put o.dst v) w') → o.wp P a w next Q

theorem Does.value {P : Program} {o : Oper} {a : Act} {w w' : World} {v : Value} {R : Value → World → Prop} (h : (execOp a.eval o).run P w = .ok (.value v) w') (hR : R v w') : Does P o a w R := by
  intro next Q hn
  unfold Oper.wp
  rw [h, Oper.upon_value]
  exact hn v w' hR
theorem Does.skip {P : Program} {o : Oper} {a : Act} {w w' : World} {R : Value → World → Prop} (h : (execOp a.eval o).run P w = .ok .skip w') (hR : R undef w') : Does P o a w R := by
  intro next Q hn
  unfold Oper.wp
  rw [h, Oper.upon_skip]
  exact hn _ w' hR
theorem Does.enter {P : Program} {o : Oper} {a : Act} {w : World} {f : FuncId} {args : Array Value} {R : Value → World → Prop} (h : (execOp a.eval o).run P w = .ok (.enter f args) w)
    (hc : Calls P f args w fun e w' => ∃ v, e = .returned v ∧ R v w') : Does P o a w R := by
  intro next Q hn
  unfold Oper.wp
  rw [h, Oper.upon_enter]
  exact hc.mono fun e w' ⟨v, e1, hR⟩ => by subst e1; exact hn v w' hR

/-- What follows: a value, a later state, and what is asked of them. -/
def Post {ρ : Type} (K : AV → Hp → Option ρ) (r : ρ) (S : Nat → Prop) (B : Nat) (w0 : World) (h : Hp) (M : Nat → Bk) (w : World) (v : Value) (w' : World) : Prop :=
  ∃ av h' M', K av h' = some r ∧ HInv S B w0 h' M' w' ∧ HStp S h M w h' M' w' ∧ RepV (cx S h' M' w') av v

variable {P : Program} {G : World → Prop} {E : Env} {S : Nat → Prop} {B : Nat} {w0 w : World} {h : Hp} {M : Nat → Bk} {ρ : Type} {K : AV → Hp → Option ρ} {r : ρ}

theorem Post.same (H : HInv S B w0 h M w) {av : AV} {v : Value} (hk : K av h = some r) (hv : RepV (cx S h M w) av v) : Post K r S B w0 h M w v w :=
  ⟨av, h, M, hk, H, HStp.refl H, hv⟩

/-- A function value that is called. -/
def HandlerOk (P : Program) (G : World → Prop) (S : Nat → Prop) (B : Nat) (w0 : World) (call : Handler) : Prop :=
  ∀ {ρ : Type} (f : FuncId) (args : List AV) (h : Hp) (K : AV → Hp → Option ρ) (r : ρ) (M : Nat → Bk) (w : World) (vals : Array Value),
    call f args h K = some r → HInv S B w0 h M w → G w → (args.length = vals.size ∧ ∀ (i : Nat) (a : AV) (v : Value), args[i]? = some a → vals[i]? = some v → RepV (cx S h M w) a v) →
    (P.funcs[f]?).any (fun fn => fn.name != "runtime.NumGoroutine" && fn.body.isSome) = true ∧ Calls P f vals w fun e w' => ∃ v, e = .returned v ∧ Post K r S B w0 h M w v w'

/-! ### new entries -/
theorem below_alloc' (H : HInv S B w0 h M w) (o : Obj) : Below B w (w.alloc o) := (Below.refl _ _).alloc H.bsz o

theorem alloc_get (w : World) (o : Obj) : (w.alloc o).heap[w.heap.size]? = some o := by
  show (w.heap.push o)[w.heap.size]? = _
  simp
theorem alloc_old (w : World) (o : Obj) (b : Nat) (hb : b < w.heap.size) : (w.alloc o).heap[b]? = w.heap[b]? := Below.heap_alloc w o b hb
theorem alloc_size (w : World) (o : Obj) : (w.alloc o).heap.size = w.heap.size + 1 := by
  show (w.heap.push o).size = _
  simp

theorem new_box (H : HInv S B w0 h M w) {av : AV} {L : Ty} {cs : Array Value} (el : TypeId) (f : fitsT av L = true) (hr : RepC (cx S h M w) av cs.toList) (hk : K (.ptr h.next []) (h.new (.box av L)) = some r) :
    Post K r S B w0 h M w (.pointer (some ⟨w.heap.size, 0, none⟩)) (w.alloc (.cells cs el (0, 0))) := by
  obtain ⟨H', k⟩ := H.new (.box av L) (.box w.heap.size) (w' := w.alloc (.cells cs el (0, 0))) (fun b hb => alloc_old w _ b hb) (by rw [alloc_size]; omega) (below_alloc' H _)
    (fun b hb => by injection hb with hb; omega)
    (fun _ k => ⟨w.heap.size, cs, el, by simp [cx, set1, Nat.beq_refl], alloc_get w _, f, RepC.tr k _ _ hr⟩)
  refine ⟨.ptr h.next [], _, _, hk, H', k, ?_⟩
  simp only [RepV, Rep1]
  refine ⟨by simp [cx, Hp.new], _, rfl, .inr ⟨w.heap.size, av, L, 0, L, by simp [cx, set1, Nat.beq_refl], by simp [cx, Hp.new, set1, Nat.beq_refl], rfl, rfl⟩⟩

theorem notZ_new (H : HInv S B w0 h M w) {Z' : Nat → Prop} (hZ : ∀ b, Z' b → (cx S h M w).Z b) : ¬ Z' w.heap.size := fun z => by
  rcases hZ _ z with z | ⟨id, e, q1, q2⟩
  · have := H.old _ z; have := H.bsz; omega
  · have := blk_lt H (id := id) (b := w.heap.size) (by rw [show h.e id = some e from q1]; simp) q2
    omega
end Go.PG

/- The evaluator: tables checked by computation. -/
import Derived.Test.YtmklilemnfkppaaPGX
set_option linter.all false
namespace Go.PG
open Go.RowKit

variable {P : Program}

def infoB (P : Program) (t : TypeId) (n : Nat) (z : Value → Bool) : Bool := match P.info? t with
  | some i => match Nat.beq i.size n with
    | true => match i.zero with
      | some v => z v
      | none => false
    | false => false
  | none => false

theorem infoB_spec {t : TypeId} {n : Nat} {z : Value → Bool} (h : infoB P t n z = true) : ∃ v, Info P t n v ∧ z v = true := by
  unfold infoB at h
  split at h
  case h_2 => cases h
  rename_i i hi
  split at h
  case h_2 => cases h
  rename_i hs
  split at h
  case h_2 => cases h
  rename_i v hv
  exact ⟨v, ⟨i, hi, Nat.eq_of_beq_eq_true hs, hv⟩, h⟩

def liftB (q : TypeId → Bool) : Mode → Bool
  | .typ t => q t
  | .flds [f] o => match Nat.beq f.offset o with
    | true => match decide (f.name = "_") with
      | true => false
      | false => q f.type
    | false => false
  | .arr 1 e => q e
  | _ => false

theorem liftB_spec {q : TypeId → Bool} {Q : TypeId → Prop} (hq : ∀ t, q t = true → Q t) : ∀ {m : Mode}, liftB q m = true → lift Q m
  | .typ t, h => hq t h
  | .flds [f] o, h => by
    simp only [liftB] at h
    split at h
    case h_2 => cases h
    rename_i h1
    split at h
    · cases h
    · rename_i h2
      exact ⟨Nat.eq_of_beq_eq_true h1, by simpa using h2, hq _ h⟩
  | .flds [] o, h => by simp [liftB] at h
  | .flds (f :: g :: l) o, h => by simp [liftB] at h
  | .arr 0 e, h => by simp [liftB] at h
  | .arr 1 e, h => hq e h
  | .arr (n + 2) e, h => by simp [liftB] at h

def okB (P : Program) : Ty → Mode → Bool
  | .unit, _ => false
  | .bool, m => liftB (fun t => match P.underlying t with
    | some .bool => infoB P t 1 fun v => match v with
      | .bool false => true
      | _ => false
    | _ => false) m
  | .int k, m => liftB (fun t => match P.underlying t with
    | some (.int k') => match decide (k' = k) with
      | true => infoB P t 1 fun v => match v with
        | .int k2 n => match decide (k2 = k) with
          | true => decide (n = 0)
          | false => false
        | _ => false
      | false => false
    | _ => false) m
  | .str, m => liftB (fun t => match P.underlying t with
    | some .string => infoB P t 1 fun v => match v with
      | .string s => Nat.beq s.data.size 0
      | _ => false
    | _ => false) m
  | .slice e, m => liftB (fun t => match P.underlying t with
    | some (.slice e') => match okB P e (.typ e') with
      | true => infoB P t 1 fun v => match v with
        | .slice none 0 0 => true
        | _ => false
      | false => false
    | _ => false) m
  | .opq, m => liftB (fun t => match P.underlying t with
    | some d => match d.isRow with
      | false => infoB P t 1 fun v => v.oneCell'
      | true => false
    | none => false) m
  | .st b, m => liftB (fun t => match (match P.underlying t with
      | some (.struct fs) => okB P b (.flds fs.toList 0)
      | some (.array n e) => okB P b (.arr n e)
      | _ => false) with
    | true => infoB P t b.size fun v => match v with
      | .agg zs => match zeroRun b zs.toList with
        | some [] => true
        | _ => false
      | _ => false
    | false => false) m
  | .pair a r, m => match m with
    | .flds (f :: l) o => match Nat.beq f.offset o with
      | true => match decide (f.name = "_") with
        | true => false
        | false => match okB P a (.typ f.type) with
          | true => okB P r (.flds l (o + a.size))
          | false => false
      | false => false
    | .arr (n + 1) e => match okB P a (.typ e) with
      | true => okB P r (.arr n e)
      | false => false
    | _ => false

theorem okB_spec : ∀ {t : Ty} {m : Mode}, okB P t m = true → Ok P t m := by
  intro t
  induction t with
  | unit => intro m h; simp [okB] at h
  | bool =>
    intro m h
    refine liftB_spec (fun t h => ?_) h
    split at h
    · rename_i hu
      obtain ⟨v, hv, hz⟩ := infoB_spec h
      split at hz
      · exact ⟨hu, hv⟩
      · cases hz
    · cases h
  | int k =>
    intro m h
    refine liftB_spec (fun t h => ?_) h
    split at h
    · rename_i k' hu
      split at h
      · rename_i hk
        have hk := of_decide_eq_true hk
        subst hk
        obtain ⟨v, hv, hz⟩ := infoB_spec h
        split at hz
        · rename_i k2 n
          split at hz
          · rename_i hk2
            have hk2 := of_decide_eq_true hk2
            have hn := of_decide_eq_true hz
            subst hk2; subst hn
            exact ⟨hu, hv⟩
          · cases hz
        · cases hz
      · cases h
    · cases h
  | str =>
    intro m h
    refine liftB_spec (fun t h => ?_) h
    split at h
    · rename_i hu
      obtain ⟨v, hv, hz⟩ := infoB_spec h
      split at hz
      · rename_i s
        exact ⟨hu, s, hv, Nat.eq_of_beq_eq_true hz⟩
      · cases hz
    · cases h
  | slice e ih =>
    intro m h
    refine liftB_spec (fun t h => ?_) h
    split at h
    · rename_i e' hu
      split at h
      · rename_i he
        obtain ⟨v, hv, hz⟩ := infoB_spec h
        split at hz
        · exact ⟨⟨e', hu, ih he⟩, hv⟩
        · cases hz
      · cases h
    · cases h
  | opq =>
    intro m h
    refine liftB_spec (fun t h => ?_) h
    split at h
    · rename_i d hu
      split at h
      · rename_i hd
        obtain ⟨v, hv, hz⟩ := infoB_spec h
        exact ⟨⟨d, hu, hd⟩, v, hv, hz⟩
      · cases h
    · cases h
  | st b ih =>
    intro m h
    refine liftB_spec (fun t h => ?_) h
    split at h
    · rename_i hb
      obtain ⟨v, hv, hz⟩ := infoB_spec h
      split at hz
      · rename_i zs
        split at hz
        · rename_i hzr
          refine ⟨?_, zs, hv, hzr⟩
          split at hb
          · rename_i fs hu; exact .inl ⟨fs, hu, ih hb⟩
          · rename_i n e hu; exact .inr ⟨n, e, hu, ih hb⟩
          · cases hb
        · cases hz
      · cases hz
    · cases h
  | pair a r iha ihr =>
    intro m h
    simp only [okB] at h
    split at h
    · rename_i f l o
      split at h
      · rename_i h1
        split at h
        · cases h
        · rename_i h2
          split at h
          · rename_i h3
            exact ⟨Nat.eq_of_beq_eq_true h1, by simpa using h2, iha h3, ihr h⟩
          · cases h
      · cases h
    · rename_i n e
      split at h
      · rename_i h3
        exact ⟨iha h3, ihr h⟩
      · cases h
    · cases h

def eqsB (P : Program) : Ty → Mode → Bool
  | .bool, m => liftB (fun t => match P.underlying t with
    | some .bool => true
    | _ => false) m
  | .int k, m => liftB (fun t => match P.underlying t with
    | some (.int k') => decide (k' = k)
    | _ => false) m
  | .str, m => liftB (fun t => match P.underlying t with
    | some .string => true
    | _ => false) m
  | .st b, m => liftB (fun t => match P.underlying t with
    | some (.struct fs) => match eqsB P b (.flds fs.toList 0), P.stoodInHeld t, P.eqGuardType P.depth t, P.info? t with
      | true, false, false, some i => Nat.beq i.size b.size
      | _, _, _, _ => false
    | _ => false) m
  | .pair a r, m => match m with
    | .flds (f :: l) o => match Nat.beq f.offset o with
      | true => match decide (f.name = "_") with
        | true => false
        | false => match eqsB P a (.typ f.type) with
          | true => eqsB P r (.flds l (o + a.size))
          | false => false
      | false => false
    | _ => false
  | _, _ => false

theorem eqsB_spec : ∀ {t : Ty} {m : Mode}, eqsB P t m = true → Eqs P t m := by
  intro t
  induction t with
  | bool =>
    intro m h
    refine liftB_spec (fun t h => ?_) h
    split at h
    · rename_i hu; exact hu
    · cases h
  | int k =>
    intro m h
    refine liftB_spec (fun t h => ?_) h
    split at h
    · rename_i k' hu
      have := of_decide_eq_true h
      subst this
      exact hu
    · cases h
  | str =>
    intro m h
    refine liftB_spec (fun t h => ?_) h
    split at h
    · rename_i hu; exact hu
    · cases h
  | st b ih =>
    intro m h
    refine liftB_spec (fun t h => ?_) h
    split at h
    · rename_i fs hu
      split at h
      · rename_i i h1 h2 h3 h4
        exact ⟨⟨fs, hu, ih h1⟩, h2, h3, by rw [h4]; simp [Nat.eq_of_beq_eq_true h]⟩
      · cases h
    · cases h
  | pair a r iha ihr =>
    intro m h
    simp only [eqsB] at h
    split at h
    · rename_i f l o
      split at h
      · rename_i h1
        split at h
        · cases h
        · rename_i h2
          split at h
          · rename_i h3
            exact ⟨Nat.eq_of_beq_eq_true h1, by simpa using h2, iha h3, ihr h⟩
          · cases h
      · cases h
    · cases h
  | _ => intro m h; simp [eqsB] at h

/-- One row of the table of types. -/
def tyB (P : Program) (t : TypeId) (r : TyRow) : Bool := match okB P r.ty (.typ t) with
  | false => false
  | true => match (match r.ty with
      | .slice _ => match P.underlying t with
        | some (.slice e') => match P.info? e' with
          | some i => match Nat.beq i.bytes r.bytes with
            | true => Nat.blt 0 r.bytes
            | false => false
          | none => false
        | _ => false
      | .st _ => match P.underlying t with
        | some (.array _ _) => r.arr
        | some (.struct _) => match r.arr with
          | true => false
          | false => true
        | _ => false
      | _ => true) with
    | false => false
    | true => match r.eq with
      | false => true
      | true => match eqsB P r.ty (.typ t) with
        | true => Nat.ble (nest r.ty) 9000
        | false => false
def tysB (P : Program) : List (Nat × TyRow) → Bool
  | [] => true
  | (t, r) :: l => match tyB P t r with
    | true => tysB P l
    | false => false

theorem look_mem {α : Type} {i : Nat} {a : α} : ∀ {l : List (Nat × α)}, look l i = some a → (i, a) ∈ l
  | [], h => by simp [look] at h
  | (j, b) :: l, h => by
    simp only [look] at h
    split at h
    · rename_i e
      have := Nat.eq_of_beq_eq_true e
      subst this
      injection h with h
      subst h
      simp
    · exact List.mem_cons_of_mem _ (look_mem h)

theorem tysB_mem : ∀ {l : List (Nat × TyRow)}, tysB P l = true → ∀ p, p ∈ l → tyB P p.1 p.2 = true
  | [], _, p, h => by simp at h
  | (t, r) :: l, h, p, hp => by
    simp only [tysB] at h
    split at h
    · rename_i ht
      rcases List.mem_cons.1 hp with rfl | hp
      · exact ht
      · exact tysB_mem h p hp
    · cases h

/-- What is asked of the functions called by their contracts. -/
def SpecsOk (P : Program) (G : World → Prop) (l : List (Nat × Spec)) : Prop := ∀ f s, look l f = some s → SpecOk P G f s ∧ (P.funcs[f]?).any (fun fn => fn.name != "runtime.NumGoroutine" && fn.body.isSome) = true
def CodesOk (P : Program) (l : List (Nat × Func × List (Nat × Hint))) : Prop := ∀ f fn hs, look l f = some (fn, hs) → P.funcs[f]? = some fn ∧ (fn.name != "runtime.NumGoroutine" && fn.body.isSome) = true

theorem SpecsOk.nil {G : World → Prop} : SpecsOk P G [] := fun f s h => by simp [look] at h
theorem SpecsOk.cons {G : World → Prop} {f : FuncId} {s : Spec} {fn : Func} {l : List (Nat × Spec)} (h : SpecOk P G f s) (hf : P.funcs[f]? = some fn) (hb : (fn.name != "runtime.NumGoroutine" && fn.body.isSome) = true) (hl : SpecsOk P G l) : SpecsOk P G ((f, s) :: l) := by
  intro g u hu
  simp only [look] at hu
  split at hu
  · rename_i e
    have := Nat.eq_of_beq_eq_true e
    subst this
    injection hu with hu
    subst hu
    exact ⟨h, by rw [hf]; simpa using hb⟩
  · exact hl g u hu
theorem CodesOk.nil : CodesOk P [] := fun f fn hs h => by simp [look] at h
theorem CodesOk.cons {f : FuncId} {fn : Func} {hs : List (Nat × Hint)} {l : List (Nat × Func × List (Nat × Hint))} (hf : P.funcs[f]? = some fn) (hb : (fn.name != "runtime.NumGoroutine" && fn.body.isSome) = true) (hl : CodesOk P l) : CodesOk P ((f, fn, hs) :: l) := by
  intro g u us hu
  simp only [look] at hu
  split at hu
  · rename_i e
    have := Nat.eq_of_beq_eq_true e
    subst this
    injection hu with hu
    injection hu with h1 h2
    subst h1
    exact ⟨hf, hb⟩
  · exact hl g u us hu

def MakersOk (P : Program) (G : World → Prop) (l : List (Nat × Maker)) : Prop := ∀ f m, look l f = some m → MakerOk P G f m ∧ (P.funcs[f]?).any (fun fn => fn.name != "runtime.NumGoroutine" && fn.body.isSome) = true
theorem MakersOk.nil {P : Program} {G : World → Prop} : MakersOk P G [] := fun f m h => by cases h
theorem MakersOk.cons {P : Program} {G : World → Prop} {f : Nat} {m : Maker} {l : List (Nat × Maker)} {fn : Func} (h : MakerOk P G f m) (hf : P.funcs[f]? = some fn) (hb : (fn.name != "runtime.NumGoroutine" && fn.body.isSome) = true) (hl : MakersOk P G l) : MakersOk P G ((f, m) :: l) := by
  intro g u hu
  simp only [look] at hu
  split at hu
  · rename_i e
    have e := Nat.eq_of_beq_eq_true e
    injection hu with hu
    subst hu; subst e
    exact ⟨h, by rw [hf]; exact hb⟩
  · exact hl g u hu

theorem envOk {G : World → Prop} {E : Env} (hT : tysB P E.T = true) (hs : SpecsOk P G E.specs) (hc : CodesOk P E.codes) (hm : P.follows .mixedOrders = true) (hG : ∀ w w', G w → Below w.heap.size w w' → G w') (hk : MakersOk P G E.lays := by exact MakersOk.nil) : EnvOk P G E := by
  have row : ∀ t r, look E.T t = some r → tyB P t r = true := fun t r h => tysB_mem hT (t, r) (look_mem h)
  have row1 : ∀ t r, look E.T t = some r → Ok P r.ty (.typ t) := by
    intro t r h
    have := row t r h
    unfold tyB at this
    split at this
    · cases this
    · rename_i h; exact okB_spec h
  refine ⟨fun t ty h => ?_, fun t r e h he => ?_, fun t r h he => ?_, hs, hc, fun t r b h hb => ?_, hk, hm, hG⟩
  · obtain ⟨r, h1, h2⟩ := EnvOk.row h
    rw [← h2]
    exact row1 t r h1
  · have h1 := row t r h
    have h2 := row1 t r h
    unfold tyB at h1
    split at h1
    · cases h1
    split at h1
    · cases h1
    rename_i h3
    rw [he] at h3
    simp only at h3
    split at h3
    · rename_i e' hu
      split at h3
      · rename_i i hi
        split at h3
        · rename_i hb
          rw [he] at h2
          obtain ⟨⟨e'', q1, q2⟩, _⟩ := h2
          rw [hu] at q1
          injection q1 with q1
          injection q1 with q1
          subst q1
          exact ⟨e', i, hu, hi, Nat.eq_of_beq_eq_true hb, q2, by simpa [Nat.blt_eq] using h3⟩
        · cases h3
      · cases h3
    · cases h3
  · have h1 := row t r h
    unfold tyB at h1
    split at h1
    · cases h1
    split at h1
    · cases h1
    rw [he] at h1
    simp only at h1
    split at h1
    · rename_i q
      exact ⟨eqsB_spec q, Nat.le_of_ble_eq_true h1⟩
    · cases h1
  · have h1 := row t r h
    unfold tyB at h1
    split at h1
    · cases h1
    split at h1
    · cases h1
    rename_i h3
    rw [hb] at h3
    simp only at h3
    split at h3
    · rename_i n e hu
      exact ⟨fun _ => ⟨n, e, hu⟩, fun q => by rw [q] at h3; cases h3⟩
    · rename_i fs hu
      refine ⟨fun q => ?_, fun _ => ⟨fs, hu⟩⟩
      rw [q] at h3
      cases h3
    · cases h3
end Go.PG

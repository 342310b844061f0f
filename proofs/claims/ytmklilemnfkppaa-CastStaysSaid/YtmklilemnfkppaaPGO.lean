/- The evaluator's soundness: the program's types; loads, stores, comparisons. -/
import Derived.Test.YtmklilemnfkppaaPGT1
import Derived.Laws.StructEq
set_option linter.all false
namespace Go.PG
open Go.RowKit

/-! ### types as the program has them -/
def Info (P : Program) (t : TypeId) (n : Nat) (z : Value) : Prop := ∃ i, P.info? t = some i ∧ i.size = n ∧ i.zero = some z

inductive Mode where
  | typ (t : TypeId)
  | flds (l : List Field) (o : Nat)
  | arr (n : Nat) (e : TypeId)

def lift (Q : TypeId → Prop) : Mode → Prop
  | .typ t => Q t
  | .flds [f] o => f.offset = o ∧ f.name ≠ "_" ∧ Q f.type
  | .arr 1 e => Q e
  | _ => False

def zeroCell : Ty → Value → Bool
  | .bool, .bool b => !b
  | .int k, .int k' n => decide (k' = k) && decide (n = 0)
  | .str, .string s => decide (s.data.size = 0)
  | .slice _, .slice none 0 0 => true
  | .opq, v => v.oneCell'
  | _, _ => false
def zeroRun : Ty → List Value → Option (List Value)
  | .st b, cs => zeroRun b cs
  | .pair a b, cs => match zeroRun a cs with
    | some r => zeroRun b r
    | none => none
  | t, v :: r => cond (zeroCell t v) (some r) none
  | _, [] => none

def Ok (P : Program) : Ty → Mode → Prop
  | .unit, _ => False
  | .bool, m => lift (fun t => P.underlying t = some .bool ∧ Info P t 1 (.bool false)) m
  | .int k, m => lift (fun t => P.underlying t = some (.int k) ∧ Info P t 1 (.int k 0)) m
  | .str, m => lift (fun t => P.underlying t = some .string ∧ ∃ s, Info P t 1 (.string s) ∧ s.data.size = 0) m
  | .slice e, m => lift (fun t => (∃ e', P.underlying t = some (.slice e') ∧ Ok P e (.typ e')) ∧ Info P t 1 (.slice none 0 0)) m
  | .opq, m => lift (fun t => (∃ d, P.underlying t = some d ∧ d.isRow = false) ∧ ∃ z, Info P t 1 z ∧ z.oneCell' = true) m
  | .st b, m => lift (fun t => ((∃ fs, P.underlying t = some (.struct fs) ∧ Ok P b (.flds fs.toList 0)) ∨ (∃ n e, P.underlying t = some (.array n e) ∧ Ok P b (.arr n e))) ∧
      ∃ zs, Info P t b.size (.agg zs) ∧ zeroRun b zs.toList = some []) m
  | .pair a r, m => match m with
    | .flds (f :: l) o => f.offset = o ∧ f.name ≠ "_" ∧ Ok P a (.typ f.type) ∧ Ok P r (.flds l (o + a.size))
    | .arr (n + 1) e => Ok P a (.typ e) ∧ Ok P r (.arr n e)
    | _ => False

/-- Types whose values may be compared as structs. -/
def Eqs (P : Program) : Ty → Mode → Prop
  | .bool, m => lift (fun t => P.underlying t = some .bool) m
  | .int k, m => lift (fun t => P.underlying t = some (.int k)) m
  | .str, m => lift (fun t => P.underlying t = some .string) m
  | .st b, m => lift (fun t => (∃ fs, P.underlying t = some (.struct fs) ∧ Eqs P b (.flds fs.toList 0)) ∧ P.stoodInHeld t = false ∧ P.eqGuardType P.depth t = false ∧ (P.info? t).map (·.size) = some b.size) m
  | .pair a r, m => match m with
    | .flds (f :: l) o => f.offset = o ∧ f.name ≠ "_" ∧ Eqs P a (.typ f.type) ∧ Eqs P r (.flds l (o + a.size))
    | _ => False
  | _, _ => False

def nest : Ty → Nat
  | .st b => nest b + 1
  | .pair a b => max (nest a) (nest b)
  | _ => 0

variable {P : Program} {w : World}

theorem ok_size {t : Ty} {id : TypeId} (h : Ok P t (.typ id)) : ∃ i, P.info? id = some i ∧ i.size = t.size := by
  cases t with
  | unit => exact h.elim
  | pair a b => exact h.elim
  | opq => obtain ⟨_, z, ⟨i, h1, h2, _⟩, _⟩ := h; exact ⟨i, h1, h2⟩
  | str => obtain ⟨_, s, ⟨i, h1, h2, _⟩, _⟩ := h; exact ⟨i, h1, h2⟩
  | st b => obtain ⟨_, zs, ⟨i, h1, h2, _⟩, _⟩ := h; exact ⟨i, h1, h2⟩
  | _ => obtain ⟨_, ⟨i, h1, h2, _⟩⟩ := h; exact ⟨i, h1, h2⟩

theorem ok_pos : ∀ (t : Ty) (m : Mode), Ok P t m → 0 < t.size := by
  intro t
  induction t with
  | unit => intro m h; exact h.elim
  | st b ih =>
    intro m h
    have key : ∀ t, ((∃ fs, P.underlying t = some (.struct fs) ∧ Ok P b (.flds fs.toList 0)) ∨ (∃ n e, P.underlying t = some (.array n e) ∧ Ok P b (.arr n e))) → 0 < (Ty.st b).size := by
      rintro t (⟨fs, _, h⟩ | ⟨n, e, _, h⟩)
      · exact ih _ h
      · exact ih _ h
    cases m with
    | typ t => exact key t h.1
    | flds l o =>
      cases l with
      | nil => exact h.elim
      | cons f l => cases l with
        | nil => exact key _ h.2.2.1
        | cons g l => exact h.elim
    | arr n e =>
      cases n with
      | zero => exact h.elim
      | succ n => cases n with
        | zero => exact key _ h.1
        | succ n => exact h.elim
  | pair a r iha ihr =>
    intro m h
    cases m with
    | typ t => exact h.elim
    | flds l o => cases l with
      | nil => exact h.elim
      | cons f l => have := iha _ h.2.2.1; simp only [Ty.size]; omega
    | arr n e => cases n with
      | zero => exact h.elim
      | succ n => have := iha _ h.1; simp only [Ty.size]; omega
  | _ => intro m h; exact Nat.one_pos

theorem ok_agg {t : Ty} {id : TypeId} (h : Ok P t (.typ id)) (w : World) : (isAgg id).run P w = .ok (isSt t) w := by
  have key : ∀ d, P.underlying id = some d → d.isRow = isSt t → (isAgg id).run P w = .ok (isSt t) w := by
    intro d hu hd
    unfold isAgg
    rw [Sem.run_bind, run_underlying hu w]
    cases d <;> simp_all [TypeDesc.isRow]
  cases t with
  | unit => exact h.elim
  | pair a b => exact h.elim
  | opq => obtain ⟨⟨d, h1, h2⟩, _⟩ := h; exact key d h1 h2
  | st b =>
    obtain ⟨h | h, _⟩ := h
    · obtain ⟨fs, h, _⟩ := h; exact key _ h rfl
    · obtain ⟨n, e, h, _⟩ := h; exact key _ h rfl
  | slice e => obtain ⟨⟨e', h, _⟩, _⟩ := h; exact key _ h rfl
  | _ => exact key _ h.1 rfl

theorem run_sizeOf_ok {t : Ty} {id : TypeId} (h : Ok P t (.typ id)) (w : World) : (sizeOf id).run P w = .ok t.size w := by
  obtain ⟨i, h1, h2⟩ := ok_size h
  simp [sizeOf, typeInfo, h1, h2]

/-! ### fields -/
theorem lift_flds {Q : TypeId → Prop} {l : List Field} {o : Nat} (h : lift Q (.flds l o)) : ∃ f, l = [f] ∧ f.offset = o ∧ f.name ≠ "_" ∧ Q f.type := by
  cases l with
  | nil => exact h.elim
  | cons f l => cases l with
    | nil => exact ⟨f, rfl, h⟩
    | cons g l => exact h.elim
theorem lift_arr {Q : TypeId → Prop} {n : Nat} {e : TypeId} (h : lift Q (.arr n e)) : n = 1 ∧ Q e := by
  cases n with
  | zero => exact h.elim
  | succ n => cases n with
    | zero => exact ⟨rfl, h⟩
    | succ n => exact h.elim

theorem ok_leaf_flds {t : Ty} (hp : ∀ a r, t ≠ .pair a r) {l : List Field} {o : Nat} (h : Ok P t (.flds l o)) : ∃ f, l = [f] ∧ f.offset = o ∧ f.name ≠ "_" ∧ Ok P t (.typ f.type) := by
  cases t with
  | pair a r => exact absurd rfl (hp a r)
  | unit => exact h.elim
  | _ => exact lift_flds h
theorem ok_leaf_arr {t : Ty} (hp : ∀ a r, t ≠ .pair a r) {n : Nat} {e : TypeId} (h : Ok P t (.arr n e)) : n = 1 ∧ Ok P t (.typ e) := by
  cases t with
  | pair a r => exact absurd rfl (hp a r)
  | unit => exact h.elim
  | _ => exact lift_arr h

theorem nth_leaf {b t : Ty} {j : Nat} (hp : ∀ a r, b ≠ .pair a r) (h : b.nth j = some t) : j = 0 ∧ b = t ∧ b.off j = 0 := by
  cases b with
  | pair a r => exact absurd rfl (hp a r)
  | _ => cases j with
    | zero => exact ⟨rfl, by simpa [Ty.nth] using h, rfl⟩
    | succ j => simp [Ty.nth] at h

theorem ok_field : ∀ (b : Ty) (l : List Field) (o j : Nat) (t : Ty), Ok P b (.flds l o) → b.nth j = some t → ∃ f, l[j]? = some f ∧ f.offset = o + b.off j ∧ Ok P t (.typ f.type) := by
  intro b
  induction b with
  | pair a r iha ihr =>
    intro l o j t h hn
    cases l with
    | nil => exact h.elim
    | cons f l =>
      obtain ⟨h1, _, h2, h3⟩ := h
      cases j with
      | zero =>
        simp only [Ty.nth] at hn
        injection hn with hn
        subst hn
        exact ⟨f, rfl, by simp [Ty.off, h1], h2⟩
      | succ j =>
        simp only [Ty.nth] at hn
        obtain ⟨g, h4, h5, h6⟩ := ihr l _ j t h3 hn
        exact ⟨g, by simpa using h4, by simp [Ty.off, h5]; omega, h6⟩
  | _ =>
    intro l o j t h hn
    obtain ⟨rfl, rfl, e⟩ := nth_leaf (by intros; simp) hn
    obtain ⟨f, rfl, h1, _, h2⟩ := ok_leaf_flds (by intros; simp) h
    exact ⟨f, rfl, by simp [h1, e], h2⟩

theorem ok_elem : ∀ (b : Ty) (n j : Nat) (e : TypeId) (t : Ty), Ok P b (.arr n e) → b.nth j = some t → j < n ∧ Ok P t (.typ e) ∧ ∀ i, P.info? e = some i → b.off j = j * i.size := by
  intro b
  induction b with
  | pair a r iha ihr =>
    intro n j e t h hn
    cases n with
    | zero => exact h.elim
    | succ n =>
      obtain ⟨h1, h2⟩ := h
      cases j with
      | zero =>
        simp only [Ty.nth] at hn
        injection hn with hn
        subst hn
        exact ⟨by omega, h1, fun i _ => by simp [Ty.off]⟩
      | succ j =>
        simp only [Ty.nth] at hn
        obtain ⟨h3, h4, h5⟩ := ihr n j e t h2 hn
        refine ⟨by omega, h4, fun i hi => ?_⟩
        obtain ⟨i', hi', hs⟩ := ok_size h1
        rw [hi] at hi'
        injection hi' with hi'
        subst hi'
        rw [Ty.off, h5 i hi, ← hs, Nat.add_mul]
        omega
  | _ =>
    intro n j e t h hn
    obtain ⟨rfl, rfl, e'⟩ := nth_leaf (by intros; simp) hn
    obtain ⟨rfl, h2⟩ := ok_leaf_arr (by intros; simp) h
    exact ⟨by omega, h2, fun i _ => by simp [e']⟩

/-! ### zero values -/
theorem mkPr_rep {c : Cx} {a b : AV} {ta tb : Ty} {c1 c2 : List Value} (h1 : RepC c a c1) (h2 : RepC c b c2) (f1 : fitsT a ta = true) (f2 : fitsT b tb = true) :
    RepC c (mkPr a b) (c1 ++ c2) ∧ fitsT (mkPr a b) (.pair ta tb) = true := by
  have key : mkPr a b = .pr a b → RepC c (mkPr a b) (c1 ++ c2) ∧ fitsT (mkPr a b) (.pair ta tb) = true := fun e => by
    rw [e]
    refine ⟨by simp only [RepC]; exact ⟨c1, c2, rfl, h1, h2⟩, by simp [fitsT, f1, f2]⟩
  cases a with
  | data t x =>
    cases b with
    | data u y =>
      simp only [fitsT, decide_eq_true_eq] at f1 f2
      subst f1; subst f2
      simp only [RepC] at h1 h2
      refine ⟨by simp only [mkPr, RepC, RepD]; exact ⟨c1, c2, rfl, h1, h2⟩, by simp [mkPr, fitsT]⟩
    | _ => exact key rfl
  | _ => exact key rfl
theorem mkSt_rep {c : Cx} {a : AV} {ta : Ty} {c1 : List Value} (h1 : RepC c a c1) (f1 : fitsT a ta = true) : RepC c (mkSt a) c1 ∧ fitsT (mkSt a) (.st ta) = true := by
  cases a with
  | data t x =>
    simp only [fitsT, decide_eq_true_eq] at f1
    subst f1
    simp only [RepC] at h1
    exact ⟨by simpa only [mkSt, RepC, RepD] using h1, by simp [mkSt, fitsT]⟩
  | _ => exact ⟨by simpa only [mkSt, RepC] using h1, by simpa only [mkSt, fitsT] using f1⟩

theorem zeroCell_rep {c : Cx} {t : Ty} {v : Value} (h : zeroCell t v = true) : RepC c (zeroAV t) [v] ∧ fitsT (zeroAV t) t = true := by
  cases t with
  | bool => cases v <;> simp [zeroCell] at h; subst h; simp [zeroAV, RepC, RepD, Ty.zero, fitsT]
  | int k => cases v <;> simp [zeroCell] at h; obtain ⟨rfl, rfl⟩ := h; simp [zeroAV, RepC, RepD, Ty.zero, fitsT]
  | str =>
    cases v <;> simp [zeroCell] at h
    rename_i s
    obtain ⟨d⟩ := s
    obtain rfl : d = #[] := by injection h
    simp [zeroAV, RepC, RepD, Ty.zero, fitsT]
  | slice e =>
    cases v with
    | slice A n m =>
      cases A with
      | some a => simp [zeroCell] at h
      | none => cases n with
        | succ n => simp [zeroCell] at h
        | zero => cases m with
          | succ m => simp [zeroCell] at h
          | zero => simp [zeroAV, RepC, Rep1, fitsT]
    | _ => simp [zeroCell] at h
  | opq => simp only [zeroCell] at h; simp [zeroAV, RepC, fitsT, h]
  | _ => simp [zeroCell] at h

theorem zero_rep {c : Cx} : ∀ (t : Ty) (cs r : List Value), zeroRun t cs = some r → ∃ c1, cs = c1 ++ r ∧ RepC c (zeroAV t) c1 ∧ fitsT (zeroAV t) t = true := by
  intro t
  induction t with
  | st b ih =>
    intro cs r h
    simp only [zeroRun] at h
    obtain ⟨c1, e, h1, h2⟩ := ih cs r h
    obtain ⟨h3, h4⟩ := mkSt_rep h1 h2
    exact ⟨c1, e, h3, h4⟩
  | pair a b iha ihb =>
    intro cs r h
    simp only [zeroRun] at h
    split at h
    · rename_i r' hr
      obtain ⟨c1, rfl, h1, h2⟩ := iha cs r' hr
      obtain ⟨c2, rfl, h3, h4⟩ := ihb r' r h
      obtain ⟨h5, h6⟩ := mkPr_rep h1 h3 h2 h4
      exact ⟨c1 ++ c2, by simp, h5, h6⟩
    · cases h
  | _ =>
    intro cs r h
    cases cs with
    | nil => simp [zeroRun] at h
    | cons v l =>
      simp only [zeroRun] at h
      cases hz : zeroCell _ v with
      | false => rw [hz] at h; cases h
      | true =>
        rw [hz] at h
        injection h with h
        subst h
        obtain ⟨h1, h2⟩ := zeroCell_rep (c := c) hz
        exact ⟨[v], rfl, h1, h2⟩

theorem ok_zero {c : Cx} {t : Ty} {id : TypeId} (h : Ok P t (.typ id)) (w : World) : ∃ z, (zeroValue id).run P w = .ok z w ∧ RepC c (zeroAV t) z.cells.toList ∧ fitsT (zeroAV t) t = true := by
  have key : ∀ z n, Info P id n z → zeroRun t z.cells.toList = some [] → ∃ z, (zeroValue id).run P w = .ok z w ∧ RepC c (zeroAV t) z.cells.toList ∧ fitsT (zeroAV t) t = true := by
    rintro z n ⟨i, h1, h2, h3⟩ hz
    obtain ⟨c1, e, h4, h5⟩ := zero_rep (c := c) t _ _ hz
    refine ⟨z, by simp [zeroValue, typeInfo, h1, h3], ?_, h5⟩
    rw [e]; simpa using h4
  cases t with
  | unit => exact h.elim
  | pair a b => exact h.elim
  | bool => exact key _ _ h.2 (by simp [Value.cells, zeroRun, zeroCell])
  | int k => exact key _ _ h.2 (by simp [Value.cells, zeroRun, zeroCell])
  | str => obtain ⟨_, s, h1, h2⟩ := h; exact key _ _ h1 (by simp [Value.cells, zeroRun, zeroCell, h2])
  | slice e => exact key _ _ h.2 (by simp [Value.cells, zeroRun, zeroCell])
  | opq => obtain ⟨_, z, h1, h2⟩ := h; exact key _ _ h1 (by rw [oneCell_cells h2]; simp [zeroRun, zeroCell, h2])
  | st b => obtain ⟨_, zs, h1, h2⟩ := h; exact key _ _ h1 (by simpa [Value.cells, zeroRun] using h2)

/-! ### loads and stores -/
/-- A value out of cells. -/
def valOf (t : Ty) (cs : List Value) (v : Value) : Prop := (isSt t = true ∧ v = .agg cs.toArray) ∨ (isSt t = false ∧ cs = [v])

theorem valOf_cells {t : Ty} {cs : List Value} {v : Value} (h : valOf t cs v) (h1 : ∀ u ∈ cs, u.oneCell' = true) : v.cells.toList = cs := by
  rcases h with ⟨_, rfl⟩ | ⟨_, rfl⟩
  · rfl
  · rw [oneCell_cells (h1 v (by simp))]

theorem repC_repV {c : Cx} {u : AV} {t : Ty} {cs : List Value} {v : Value} (f : fitsT u t = true) (hp : ∀ a b, t ≠ .pair a b) (h : RepC c u cs) (hv : valOf t cs v) : RepV c u v := by
  cases u with
  | data t' x =>
    simp only [fitsT, decide_eq_true_eq] at f
    subst f
    simp only [RepC] at h
    simp only [RepV]
    rcases hv with ⟨e, rfl⟩ | ⟨e, rfl⟩
    · exact .inl ⟨e, _, rfl, by simpa using h⟩
    · exact .inr ⟨e, h⟩
  | st a =>
    cases t with
    | st b =>
      rcases hv with ⟨e, rfl⟩ | ⟨e, rfl⟩
      · simp only [RepC] at h
        simp only [RepV]
        exact ⟨_, rfl, by simpa using h⟩
      · cases e
    | _ => simp [fitsT] at f
  | pr a r =>
    cases t with
    | pair ta tb => exact absurd rfl (hp ta tb)
    | _ => simp [fitsT] at f
  | undef => simp only [RepV]
  | unit => cases t <;> simp [fitsT] at f
  | tup b => cases t <;> simp [fitsT] at f
  | fn g d =>
    rcases hv with ⟨e, rfl⟩ | ⟨e, rfl⟩
    · cases t <;> first | (simp [fitsT] at f; done) | cases e
    · simp only [RepC] at h
      obtain ⟨vs, e', h⟩ := h
      injection e' with e'
      simp only [RepV]
      exact ⟨vs, e', h⟩
  | _ =>
    rcases hv with ⟨e, rfl⟩ | ⟨e, rfl⟩
    · cases t <;> first | (simp [fitsT] at f; done) | cases e
    · simpa only [RepC, RepV] using h

theorem run_load_ok {t : Ty} {id : TypeId} (h : Ok P t (.typ id)) {b o : Nat} {cs : List Value} (hm : Mem w b o cs) (hl : cs.length = t.size) :
    ∃ v, (Instr.loadAt id (.pointer (some ⟨b, o, none⟩))).run P w = .ok v w ∧ valOf t cs v := by
  have ha := ok_agg h w
  have hs := run_sizeOf_ok h w
  cases e : isSt t with
  | true =>
    rw [e] at ha
    refine ⟨.agg cs.toArray, ?_, .inl ⟨e, rfl⟩⟩
    have hc := run_loadCells_list (P := P) w ⟨b, o, none⟩ cs (fun j v hv => by rw [Addr.add_mid]; exact hm j v hv)
    rw [hl] at hc
    simp [Instr.loadAt, Instr.sureAddr, loadVar, ha, hs, hc]
  | false =>
    rw [e] at ha
    have h1 : t.size = 1 := by
      cases t <;> first | rfl | exact h.elim | cases e
    obtain ⟨v, rfl⟩ : ∃ v, cs = [v] := List.length_eq_one_iff.1 (by omega)
    refine ⟨v, ?_, .inr ⟨e, rfl⟩⟩
    have := hm 0 v rfl
    simp at this
    simp [Instr.loadAt, Instr.sureAddr, loadVar, ha, this]

theorem run_store_ok {t : Ty} {id : TypeId} (h : Ok P t (.typ id)) {b o : Nat} {cs : Array Value} {el : TypeId} {v : Value} (hw : w.heap[b]? = some (.cells cs el (0, 0)))
    (hl : v.cells.toList.length = t.size) (ho : o + t.size ≤ cs.size) (h1 : ∀ u ∈ v.cells.toList, u.oneCell' = true) :
    (Instr.storeAt id (.pointer (some ⟨b, o, none⟩)) v).run P w = .ok () (w.setRow b (cs.toList.take o ++ v.cells.toList ++ cs.toList.drop (o + t.size)).toArray) := by
  have hs := run_sizeOf_ok h w
  have := run_storeCells_at P b o el v.cells.toList 0 cs w hw (by simpa [hl] using ho) h1
  have hsz : v.cells.size = t.size := by simpa using hl
  simp only [Nat.add_zero] at this
  rw [hl] at this
  simp [Instr.storeAt, Instr.sureAddr, storeVar, hs, hsz, this]

/-! ### comparisons -/
def RepDV (Z : Nat → Prop) (w : World) (t : Ty) (x : t.D) (v : Value) : Prop := (isSt t = true ∧ ∃ cs, v = .agg cs ∧ RepD Z w t x cs.toList) ∨ (isSt t = false ∧ RepD Z w t x [v])

theorem eqs_leaf_flds {t : Ty} (hp : ∀ a r, t ≠ .pair a r) {l : List Field} {o : Nat} (h : Eqs P t (.flds l o)) : ∃ f, l = [f] ∧ f.offset = o ∧ f.name ≠ "_" ∧ Eqs P t (.typ f.type) := by
  cases t with
  | pair a r => exact absurd rfl (hp a r)
  | unit => exact h.elim
  | opq => exact h.elim
  | slice e => exact h.elim
  | _ => exact lift_flds h

theorem eqs_agg {t : Ty} {id : TypeId} (h : Eqs P t (.typ id)) (w : World) : (isAgg id).run P w = .ok (isSt t) w := by
  have key : ∀ d, P.underlying id = some d → d.isRow = isSt t → (isAgg id).run P w = .ok (isSt t) w := by
    intro d hu hd
    unfold isAgg
    rw [Sem.run_bind, run_underlying hu w]
    cases d <;> simp_all [TypeDesc.isRow]
  cases t with
  | st b => obtain ⟨⟨fs, h, _⟩, _⟩ := h; exact key _ h rfl
  | bool => exact key _ h rfl
  | int k => exact key _ h rfl
  | str => exact key _ h rfl
  | _ => exact h.elim

/-- A part of an aggregate's cells. -/
theorem run_part {t : Ty} {id : TypeId} (h : Eqs P t (.typ id)) {xs : Array Value} {p c s : List Value} (e : xs.toList = p ++ c ++ s) (hl : c.length = t.size) (w : World) :
    ∃ v, (part id xs p.length).run P w = .ok v w ∧ valOf t c v := by
  have ha := eqs_agg h w
  cases q : isSt t with
  | true =>
    rw [q] at ha
    refine ⟨.agg c.toArray, ?_, .inl ⟨q, rfl⟩⟩
    cases t with
    | st b =>
      obtain ⟨_, _, _, h4⟩ := h
      cases hi : P.info? id with
      | none => simp [hi] at h4
      | some i =>
        have hs : i.size = b.size := by simpa [hi] using h4
        have hx : xs.extract p.length (p.length + b.size) = c.toArray := by
          apply Array.toList_inj.1
          simp only [Ty.size] at hl
          rw [Array.toList_extract, e]
          simp [List.extract, ← hl]
        simp [part, ha, sizeOf, typeInfo, hi, hs, hx]
    | _ => cases q
  | false =>
    rw [q] at ha
    have h1 : t.size = 1 := by cases t <;> first | rfl | exact h.elim | cases q
    obtain ⟨v, rfl⟩ : ∃ v, c = [v] := List.length_eq_one_iff.1 (by omega)
    refine ⟨v, ?_, .inr ⟨q, rfl⟩⟩
    have : xs[p.length]? = some v := by
      rw [← Array.getElem?_toList, e]; simp
    simp [part, ha, this]

theorem equal_ok {Z : Nat → Prop} : ∀ (t : Ty),
    (∀ (id : TypeId) (x y : t.D) (u v : Value) (r : Bool) (d : Nat), Eqs P t (.typ id) → RepDV Z w t x u → RepDV Z w t y v → beqD t x y = some r → nest t ≤ d → (Op.equalIn (d + 1) id u v).run P w = .ok r w) ∧
    (∀ (l : List Field) (x y : t.D) (xs ys : Array Value) (p1 c1 s1 p2 c2 s2 : List Value) (r : Bool) (d : Nat), Eqs P t (.flds l p1.length) → p2.length = p1.length → xs.toList = p1 ++ c1 ++ s1 → ys.toList = p2 ++ c2 ++ s2 →
      RepD Z w t x c1 → RepD Z w t y c2 → beqD t x y = some r → nest t ≤ d → (Op.eqFields (d + 1) xs ys l).run P w = .ok r w) := by
  intro t
  have leaf : ∀ (t : Ty), (∀ a b, t ≠ .pair a b) → (∀ (id : TypeId) (x y : t.D) (u v : Value) (r : Bool) (d : Nat), Eqs P t (.typ id) → RepDV Z w t x u → RepDV Z w t y v → beqD t x y = some r → nest t ≤ d → (Op.equalIn (d + 1) id u v).run P w = .ok r w) →
      (∀ (l : List Field) (x y : t.D) (xs ys : Array Value) (p1 c1 s1 p2 c2 s2 : List Value) (r : Bool) (d : Nat), Eqs P t (.flds l p1.length) → p2.length = p1.length → xs.toList = p1 ++ c1 ++ s1 → ys.toList = p2 ++ c2 ++ s2 →
      RepD Z w t x c1 → RepD Z w t y c2 → beqD t x y = some r → nest t ≤ d → (Op.eqFields (d + 1) xs ys l).run P w = .ok r w) := by
    intro t hp A l x y xs ys p1 c1 s1 p2 c2 s2 r d h hp2 e1 e2 hx hy hr hd
    obtain ⟨f, rfl, ho, hne, hf⟩ := eqs_leaf_flds hp h
    obtain ⟨u, hu, hu'⟩ := run_part hf e1 hx.len w
    obtain ⟨v, hv, hv'⟩ := run_part hf e2 hy.len w
    rw [hp2] at hv
    have dv : ∀ {z : t.D} {cs : List Value} {q : Value}, RepD Z w t z cs → valOf t cs q → RepDV Z w t z q := by
      rintro z cs q hz (⟨e, rfl⟩ | ⟨e, rfl⟩)
      · exact .inl ⟨e, _, rfl, by simpa using hz⟩
      · exact .inr ⟨e, hz⟩
    have := A f.type x y u v r d hf (dv hx hu') (dv hy hv') hr hd
    rw [← ho] at hu hv
    simp only [Op.eqFields, hne, ne_eq, not_false_eq_true, if_true, Sem.run_bind, hu, hv, this, Result.andThen_ok, Sem.run_ite, Sem.run_pure]
    cases r <;> simp
  induction t with
  | bool =>
    have A : ∀ (id : TypeId) (x y : Ty.bool.D) (u v : Value) (r : Bool) (d : Nat), Eqs P .bool (.typ id) → RepDV Z w .bool x u → RepDV Z w .bool y v → beqD .bool x y = some r → nest .bool ≤ d → (Op.equalIn (d + 1) id u v).run P w = .ok r w := by
      intro id x y u v r d h hx hy hr hd
      rcases hx with ⟨e, _⟩ | ⟨_, hx⟩
      · cases e
      rcases hy with ⟨e, _⟩ | ⟨_, hy⟩
      · cases e
      simp only [RepD] at hx hy
      injection hx with hx
      injection hy with hy
      subst hx; subst hy
      simp only [beqD, Go.PG.P.beq] at hr
      injection hr with hr
      subst hr
      exact run_equalIn_bool' w d id x y h
    exact ⟨A, leaf _ (by intros; simp) A⟩
  | int k =>
    have A : ∀ (id : TypeId) (x y : (Ty.int k).D) (u v : Value) (r : Bool) (d : Nat), Eqs P (.int k) (.typ id) → RepDV Z w (.int k) x u → RepDV Z w (.int k) y v → beqD (.int k) x y = some r → nest (.int k) ≤ d → (Op.equalIn (d + 1) id u v).run P w = .ok r w := by
      intro id x y u v r d h hx hy hr hd
      rcases hx with ⟨e, _⟩ | ⟨_, hx⟩
      · cases e
      rcases hy with ⟨e, _⟩ | ⟨_, hy⟩
      · cases e
      simp only [RepD] at hx hy
      injection hx with hx
      injection hy with hy
      subst hx; subst hy
      simp only [beqD, Go.PG.P.ieq] at hr
      injection hr with hr
      subst hr
      exact run_equalIn_int w d id k k x y h
    exact ⟨A, leaf _ (by intros; simp) A⟩
  | str =>
    have A : ∀ (id : TypeId) (x y : Ty.str.D) (u v : Value) (r : Bool) (d : Nat), Eqs P .str (.typ id) → RepDV Z w .str x u → RepDV Z w .str y v → beqD .str x y = some r → nest .str ≤ d → (Op.equalIn (d + 1) id u v).run P w = .ok r w := by
      intro id x y u v r d h hx hy hr hd
      rcases hx with ⟨e, _⟩ | ⟨_, hx⟩
      · cases e
      rcases hy with ⟨e, _⟩ | ⟨_, hy⟩
      · cases e
      simp only [RepD] at hx hy
      injection hx with hx
      injection hy with hy
      subst hx; subst hy
      simp only [beqD, Go.PG.P.seq] at hr
      injection hr with hr
      subst hr
      exact run_equalIn_string w d id x y h
    exact ⟨A, leaf _ (by intros; simp) A⟩
  | st b ih =>
    have A : ∀ (id : TypeId) (x y : (Ty.st b).D) (u v : Value) (r : Bool) (d : Nat), Eqs P (.st b) (.typ id) → RepDV Z w (.st b) x u → RepDV Z w (.st b) y v → beqD (.st b) x y = some r → nest (.st b) ≤ d → (Op.equalIn (d + 1) id u v).run P w = .ok r w := by
      intro id x y u v r d h hx hy hr hd
      obtain ⟨⟨fs, h1, h2⟩, h3, h4, _⟩ := h
      rcases hx with ⟨_, xs, rfl, hx⟩ | ⟨e, _⟩
      case inr => cases e
      rcases hy with ⟨_, ys, rfl, hy⟩ | ⟨e, _⟩
      case inr => cases e
      simp only [RepD] at hx hy
      simp only [beqD] at hr
      have hf : P.fieldsOf id = fs := by simp [Program.fieldsOf, h1]
      rw [run_equalIn_agg w d id xs ys (by rw [hf]; exact h1) h3, hf]
      simp only [nest] at hd
      obtain ⟨d, rfl⟩ : ∃ n, d = n + 1 := ⟨d - 1, by omega⟩
      exact ih.2 fs.toList x y xs ys [] xs.toList [] [] ys.toList [] r d h2 rfl (by simp) (by simp) hx hy hr (by omega)
    exact ⟨A, leaf _ (by intros; simp) A⟩
  | pair a b iha ihb =>
    refine ⟨fun id x y u v r d h => h.elim, fun l x y xs ys p1 c1 s1 p2 c2 s2 r d h hp2 e1 e2 hx hy hr hd => ?_⟩
    cases l with
    | nil => exact h.elim
    | cons f l =>
      obtain ⟨ho, hne, hf, hrest⟩ := h
      simp only [RepD] at hx hy
      obtain ⟨x1, x2, rfl, hx1, hx2⟩ := hx
      obtain ⟨y1, y2, rfl, hy1, hy2⟩ := hy
      simp only [beqD] at hr
      split at hr
      · rename_i q1 hq1
        split at hr
        · rename_i q2 hq2
          injection hr with hr
          subst hr
          simp only [nest] at hd
          obtain ⟨u, hu, hu'⟩ := run_part (xs := xs) (p := p1) (c := x1) (s := x2 ++ s1) hf (by simp [e1]) hx1.len w
          obtain ⟨v, hv, hv'⟩ := run_part (xs := ys) (p := p2) (c := y1) (s := y2 ++ s2) hf (by simp [e2]) hy1.len w
          rw [hp2] at hv
          have dv : ∀ {z : a.D} {cs : List Value} {q : Value}, RepD Z w a z cs → valOf a cs q → RepDV Z w a z q := by
            rintro z cs q hz (⟨e, rfl⟩ | ⟨e, rfl⟩)
            · exact .inl ⟨e, _, rfl, by simpa using hz⟩
            · exact .inr ⟨e, hz⟩
          have h1 := iha.1 f.type x.1 y.1 u v q1 d hf (dv hx1 hu') (dv hy1 hv') hq1 (by omega)
          have h2 := ihb.2 l x.2 y.2 xs ys (p1 ++ x1) x2 s1 (p2 ++ y1) y2 s2 q2 d (by simpa [hx1.len] using hrest) (by simp [hp2, hx1.len, hy1.len]) (by simp [e1]) (by simp [e2]) hx2 hy2 hq2 (by omega)
          rw [← ho] at hu hv
          simp only [Op.eqFields, hne, ne_eq, not_false_eq_true, if_true, Sem.run_bind, hu, hv, h1, Result.andThen_ok, Sem.run_ite, Sem.run_pure, h2, Go.PG.P.and]
          cases q1 <;> simp
        · cases hr
      · cases hr
  | unit => exact ⟨fun id x y u v r d h => h.elim, fun l x y xs ys p1 c1 s1 p2 c2 s2 r d h => h.elim⟩
  | opq => exact ⟨fun id x y u v r d h => h.elim, fun l x y xs ys p1 c1 s1 p2 c2 s2 r d h => h.elim⟩
  | slice e _ => exact ⟨fun id x y u v r d h => h.elim, fun l x y xs ys p1 c1 s1 p2 c2 s2 r d h => h.elim⟩
end Go.PG

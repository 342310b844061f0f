/- What the functions on stores compute. -/
import Derived.Test.YtmklilemnfkppaaImplA
import Derived.Test.YtmklilemnfkppaaBas
set_option linter.all false
open Go Go.PG Go.PL
set_option linter.unusedVariables false
namespace Go.PL
abbrev Val := Int × Int
abbrev Prp := ByteArray × Val
abbrev Ob := List Prp × Val

def Right (n : Nat) (v : Val) : Prop := (v.1 = 0 ∧ v.2 = 0) ∨ (v.1 = 1 ∧ (v.2 = 0 ∨ v.2 = 1)) ∨ v.1 = 2 ∨ (v.1 = 3 ∧ 0 ≤ v.2) ∨ (v.1 = 4 ∧ 0 ≤ v.2 ∧ v.2 < n)
instance (n : Nat) (v : Val) : Decidable (Right n v) := by unfold Right; exact inferInstance

theorem ref_right (k : Nat) (s : List Ob) (v : Val) : ref19_Right k (s, v) = some (decide (Right s.length v)) := by
  obtain ⟨a, b⟩ := v
  unfold ref19_Right
  dsimp only
  simp only [cond_eq, ieq_iff, ile_iff, ilt_iff, len_eq]
  repeat' split
  all_goals
    rw [Option.some.injEq, Bool.eq_iff_iff, decide_eq_true_eq]
    simp only [Right, ieq_iff, ile_iff, ilt_iff, true_iff, Bool.false_eq_true, false_iff]
    omega
theorem st_right (k : Nat) (s : List Ob) (v : Val) : store_Right k (s, v) = some (decide (Right s.length v)) := by
  obtain ⟨a, b⟩ := v
  unfold store_Right
  dsimp only
  simp only [cond_eq, ieq_iff, ile_iff, ilt_iff, len_eq]
  repeat' split
  all_goals
    rw [Option.some.injEq, Bool.eq_iff_iff, decide_eq_true_eq]
    simp only [Right, ieq_iff, ile_iff, ilt_iff, true_iff, Bool.false_eq_true, false_iff]
    omega
abbrev dP : Prp := (⟨#[]⟩, 0, 0)
abbrev dO : Ob := ([], 0, 0)
def PropOk (n : Nat) (l : List Prp) (i : Nat) : Prop := Right n (l.getD i dP).2 ∧ (0 < i → ltS (l.getD (i - 1) dP).1 (l.getD i dP).1)
instance (n : Nat) (l : List Prp) (i : Nat) : Decidable (PropOk n l i) := by unfold PropOk; exact inferInstance
def ProtoOk (i : Nat) (v : Val) : Prop := (v.1 = 0 ∧ v.2 = 0) ∨ (v.1 = 4 ∧ 0 ≤ v.2 ∧ v.2 < i)
instance (i : Nat) (v : Val) : Decidable (ProtoOk i v) := by unfold ProtoOk; exact inferInstance
def ObOk (n i : Nat) (o : Ob) : Prop := (∀ k, k < o.1.length → PropOk n o.1 k) ∧ ProtoOk i o.2
instance (n i : Nat) (o : Ob) : Decidable (ObOk n i o) := by unfold ObOk; exact inferInstance
def MayS (s : List Ob) : Prop := ∀ i, i < s.length → ObOk s.length i (s.getD i dO)
instance (s : List Ob) : Decidable (MayS s) := by unfold MayS; exact inferInstance
/-- A machine's lengths. -/
def Fits (s : List Ob) : Prop := s.length < 9223372036854775808 ∧ ∀ i, i < s.length → (s.getD i dO).1.length < 9223372036854775808
def K : Nat := 18446744073709551616

theorem ref_may (s : List Ob) (hf : Fits s) : ref19_May K s = some (decide (MayS s)) := by
  unfold ref19_May
  rw [iter_all (n := s.length) (e := .inl ()) (r := .inr false) (fun i => ObOk s.length i (s.getD i dO)) K ?_ ?_ (by have := hf.1; unfold K; omega)]
  · rw [bind_some]
    have : (∀ i, i < s.length → ObOk s.length i (s.getD i dO)) ↔ MayS s := Iff.rfl
    by_cases h : MayS s
    · rw [if_pos (this.2 h)]; simp [h, either_inl]
    · rw [if_neg (fun q => h (this.1 q))]; simp [h, either_inr]
  · intro i hi
    have hl := hf.2 i hi
    simp only [cond_eq, ilt_iff, inb_iff, len_eq, get_nat]
    rw [if_pos (by omega), if_pos (by omega)]
    generalize ho : s.getD i dO = o at *
    rw [iter_all (n := o.1.length) (e := .inl ()) (r := .inr (.inr (.inr false))) (fun j => PropOk s.length o.1 j) K ?_ ?_ (by unfold K; omega)]
    · rw [bind_some]
      have e1 : (∀ j, j < o.1.length → PropOk s.length o.1 j) ∧ ProtoOk i o.2 ↔ ObOk s.length i o := Iff.rfl
      by_cases h : ∀ j, j < o.1.length → PropOk s.length o.1 j
      · rw [if_pos h, either_inl]
        simp only [not_iff, and_iff, ieq_iff, ile_iff]
        rw [wrap_succ (by have := hf.1; omega)]
        have e2 : ObOk s.length i o ↔ ProtoOk i o.2 := ⟨fun q => q.2, fun q => ⟨h, q⟩⟩
        simp only [e2, ProtoOk]
        repeat' split
        all_goals first
          | rfl
          | (exfalso; omega)
      · rw [if_neg h, either_inr]
        have : ¬ ObOk s.length i o := fun q => h q.1
        simp [this]
    · intro j hj
      rw [if_pos (by omega), if_pos ⟨by omega, by omega⟩, ref_right, bind_some]
      simp only [not_iff, decide_eq_true_eq, get_nat]
      rw [wrap_succ (by omega)]
      by_cases h : Right s.length (o.1.getD j dP).2
      · rw [if_neg (not_not_intro h)]
        by_cases h0 : 0 < j
        · rw [if_pos (by omega), wrap_pred h0 (by omega), if_pos ⟨by omega, by omega⟩, if_pos ⟨by omega, by omega⟩]
          simp only [get_nat, slt_iff]
          by_cases h2 : ltS (o.1.getD (j - 1) dP).1 (o.1.getD j dP).1
          · rw [if_neg (not_not_intro h2), if_pos (show PropOk s.length o.1 j from ⟨h, fun _ => h2⟩)]
          · rw [if_pos h2, if_neg (show ¬ PropOk s.length o.1 j from fun q => h2 (q.2 h0))]
        · rw [if_neg (by omega), if_pos (show PropOk s.length o.1 j from ⟨h, fun q => absurd q h0⟩)]
      · rw [if_pos h, if_neg (show ¬ PropOk s.length o.1 j from fun q => h q.1)]
    · rw [if_neg (by omega)]
  · simp only [cond_eq, ilt_iff, len_eq]
    rw [if_neg (by omega)]
theorem st_may (s : List Ob) (hf : Fits s) : store_May K s = some (decide (MayS s)) := by
  unfold store_May
  rw [iter_all (n := s.length) (e := .inl ()) (r := .inr false) (fun i => ObOk s.length i (s.getD i dO)) K ?_ ?_ (by have := hf.1; unfold K; omega)]
  · rw [bind_some]
    have : (∀ i, i < s.length → ObOk s.length i (s.getD i dO)) ↔ MayS s := Iff.rfl
    by_cases h : MayS s
    · rw [if_pos (this.2 h)]; simp [h, either_inl]
    · rw [if_neg (fun q => h (this.1 q))]; simp [h, either_inr]
  · intro i hi
    have hl := hf.2 i hi
    simp only [cond_eq, ilt_iff, inb_iff, len_eq, get_nat]
    rw [if_pos (by omega), if_pos (by omega)]
    generalize ho : s.getD i dO = o at *
    rw [iter_all (n := o.1.length) (e := .inl ()) (r := .inr (.inr (.inr false))) (fun j => PropOk s.length o.1 j) K ?_ ?_ (by unfold K; omega)]
    · rw [bind_some]
      have e1 : (∀ j, j < o.1.length → PropOk s.length o.1 j) ∧ ProtoOk i o.2 ↔ ObOk s.length i o := Iff.rfl
      by_cases h : ∀ j, j < o.1.length → PropOk s.length o.1 j
      · rw [if_pos h, either_inl]
        simp only [not_iff, and_iff, ieq_iff, ile_iff]
        rw [wrap_succ (by have := hf.1; omega)]
        have e2 : ObOk s.length i o ↔ ProtoOk i o.2 := ⟨fun q => q.2, fun q => ⟨h, q⟩⟩
        simp only [e2, ProtoOk]
        repeat' split
        all_goals first
          | rfl
          | (exfalso; omega)
      · rw [if_neg h, either_inr]
        have : ¬ ObOk s.length i o := fun q => h q.1
        simp [this]
    · intro j hj
      rw [if_pos (by omega), if_pos ⟨by omega, by omega⟩, st_right, bind_some]
      simp only [not_iff, decide_eq_true_eq, get_nat]
      rw [wrap_succ (by omega)]
      by_cases h : Right s.length (o.1.getD j dP).2
      · rw [if_neg (not_not_intro h)]
        by_cases h0 : 0 < j
        · rw [if_pos (by omega), wrap_pred h0 (by omega), if_pos ⟨by omega, by omega⟩]
          simp only [get_nat, slt_iff]
          by_cases h2 : ltS (o.1.getD (j - 1) dP).1 (o.1.getD j dP).1
          · rw [if_neg (not_not_intro h2), if_pos (show PropOk s.length o.1 j from ⟨h, fun _ => h2⟩)]
          · rw [if_pos h2, if_neg (show ¬ PropOk s.length o.1 j from fun q => h2 (q.2 h0))]
        · rw [if_neg (by omega), if_pos (show PropOk s.length o.1 j from ⟨h, fun q => absurd q h0⟩)]
      · rw [if_pos h, if_neg (show ¬ PropOk s.length o.1 j from fun q => h q.1)]
    · rw [if_neg (by omega)]
  · simp only [cond_eq, ilt_iff, len_eq]
    rw [if_neg (by omega)]
def ownM (l : List Prp) (name : ByteArray) : Option Val := (List.range l.length).findSome? fun i => if (l.getD i dP).1 = name then some (l.getD i dP).2 else none
def tell (o : Option Val) : Val × Bool := match o with
  | some w => (w, true)
  | none => ((0, 0), false)

theorem ref_own (o : Ob) (name : ByteArray) (hl : o.1.length < 9223372036854775808) : ref19_own K (o, name) = some (tell (ownM o.1 name)) := by
  unfold ref19_own
  dsimp only
  rw [iter_find0 (n := o.1.length) (e := .inl ()) (fun i => if (o.1.getD i dP).1 = name then some (Sum.inr ((o.1.getD i dP).2, true)) else none) K ?_ ?_ (by unfold K; omega)]
  · rw [bind_some]
    have : (List.range o.1.length).findSome? (fun i => if (o.1.getD i dP).1 = name then some (Sum.inr (α := PUnit) ((o.1.getD i dP).2, true)) else none) = (ownM o.1 name).map fun w => Sum.inr (w, true) := by
      unfold ownM
      rw [List.map_findSome?]
      congr 1
      funext i
      simp only [Function.comp]
      split <;> rfl
    rw [this]
    cases ownM o.1 name <;> rfl
  · intro i hi
    simp only [cond_eq, ilt_iff, inb_iff, len_eq, get_nat, seq_iff]
    rw [if_pos (by omega), if_pos ⟨by omega, by omega⟩, wrap_succ (by omega)]
    by_cases h : (o.1.getD i dP).1 = name
    · rw [if_pos h, if_pos ⟨by omega, by omega⟩, if_pos h]
    · rw [if_neg h, if_neg h]
  · simp only [cond_eq, ilt_iff, len_eq]
    rw [if_neg (by omega)]

theorem ref_small (s : List Ob) (hf : Fits s) : ref19_Small K s = some (decide ((∀ i, i < s.length → (s.getD i dO).1.length ≤ 60) ∧ s.length ≤ 100)) := by
  unfold ref19_Small
  rw [iter_all (n := s.length) (e := .inl ()) (r := .inr false) (fun i => (s.getD i dO).1.length ≤ 60) K ?_ ?_ (by have := hf.1; unfold K; omega)]
  · rw [bind_some]
    by_cases h : ∀ i, i < s.length → (s.getD i dO).1.length ≤ 60
    · rw [if_pos h, either_inl, Option.some.injEq, Bool.eq_iff_iff, decide_eq_true_eq, ile_iff, len_eq]
      exact ⟨fun q => ⟨h, by omega⟩, fun q => by have := q.2; omega⟩
    · rw [if_neg h, either_inr, Option.some.injEq, Bool.eq_iff_iff, decide_eq_true_eq]
      exact ⟨fun q => (by cases q), fun q => absurd q.1 h⟩
  · intro i hi
    have := hf.2 i hi
    have h1 := hf.1
    dsimp only [dO] at *
    simp only [cond_eq, ilt_iff, inb_iff, len_eq, get_nat]
    rw [if_pos (by omega), if_pos ⟨by omega, by omega⟩, wrap_succ (by omega)]
    by_cases h : (s.getD i ([], 0, 0)).1.length ≤ 60
    · rw [if_neg (by omega), if_pos h]
    · rw [if_pos (by omega), if_neg h]
  · simp only [cond_eq, ilt_iff, len_eq]
    rw [if_neg (by omega)]

/-! ### sorted properties -/
def Srt (l : List Prp) : Prop := ∀ i, 0 < i → i < l.length → ltS (l.getD (i - 1) dP).1 (l.getD i dP).1
theorem Srt.lt {l : List Prp} (h : Srt l) : ∀ (j i : Nat), i < j → j < l.length → ltS (l.getD i dP).1 (l.getD j dP).1 := by
  intro j
  induction j with
  | zero => intro i hi; omega
  | succ j ih =>
    intro i hi hj
    have h1 := h (j + 1) (by omega) hj
    rw [Nat.add_sub_cancel] at h1
    rcases Nat.lt_or_ge i j with q | q
    · exact ltS_trans (ih i q (by omega)) h1
    · have : i = j := by omega
      subst this; exact h1

theorem find_loop (l : List Prp) (name : ByteArray) (hl : l.length < 9223372036854775808) (hs : Srt l) (f : Int × Int → Option ((Int × Int) ⊕ (Int ⊕ (Int × Bool))))
    (h1 : ∀ i j : Nat, i < j → j ≤ l.length → f ((i : Int), (j : Int)) = some (.inl (if ltS (l.getD ((i + j) / 2) dP).1 name then ((((i + j) / 2 + 1 : Nat) : Int), (j : Int)) else ((i : Int), (((i + j) / 2 : Nat) : Int)))))
    (h2 : ∀ i : Nat, f ((i : Int), (i : Int)) = some (.inr (.inl (i : Int)))) : ∀ (d i j k : Nat), j - i = d → i ≤ j → j ≤ l.length → d < k → (∀ t, t < i → ltS (l.getD t dP).1 name) → (∀ t, j ≤ t → t < l.length → ¬ ltS (l.getD t dP).1 name) →
    ∃ z : Nat, P.iter k f ((i : Int), (j : Int)) = some (.inl (z : Int)) ∧ z ≤ l.length ∧ (∀ t, t < z → ltS (l.getD t dP).1 name) ∧ (∀ t, z ≤ t → t < l.length → ¬ ltS (l.getD t dP).1 name) := by
  intro d
  induction d using Nat.strongRecOn with
  | ind d ih =>
    intro i j k hd hij hj hk lo hi
    by_cases h : i = j
    · subst h
      exact ⟨i, iter_done (by omega) (h2 i), hj, lo, hi⟩
    · have hf := h1 i j (by omega) hj
      have hm1 : i ≤ (i + j) / 2 := by omega
      have hm2 : (i + j) / 2 < j := by omega
      generalize (i + j) / 2 = m at *
      by_cases q : ltS (l.getD m dP).1 name
      · rw [if_pos q] at hf
        rw [iter_step (by omega) hf]
        refine ih (j - (m + 1)) (by omega) (m + 1) j (k - 1) rfl (by omega) hj (by omega) (fun t ht => ?_) hi
        rcases Nat.lt_or_ge t m with z | z
        · exact ltS_trans (hs.lt m t z (by omega)) q
        · have : t = m := by omega
          subst this; exact q
      · rw [if_neg q] at hf
        rw [iter_step (by omega) hf]
        refine ih (m - i) (by omega) i m (k - 1) rfl (by omega) (by omega) (by omega) lo (fun t ht htl => ?_)
        rcases Nat.lt_or_ge m t with z | z
        · exact fun w => q (ltS_trans (hs.lt t m z htl) w)
        · have : t = m := by omega
          subst this; exact q

theorem exists_z (l : List Prp) (name : ByteArray) (hs : Srt l) : ∃ z, z ≤ l.length ∧ (∀ t, t < z → ltS (l.getD t dP).1 name) ∧ (∀ t, z ≤ t → t < l.length → ¬ ltS (l.getD t dP).1 name) := by
  have : ∀ n, n ≤ l.length → ∃ z, z ≤ n ∧ (∀ t, t < z → ltS (l.getD t dP).1 name) ∧ (∀ t, z ≤ t → t < n → ¬ ltS (l.getD t dP).1 name) := by
    intro n
    induction n with
    | zero => intro _; exact ⟨0, Nat.le_refl _, fun t ht => by omega, fun t _ ht => by omega⟩
    | succ n ih =>
      intro hn
      obtain ⟨z, h1, h2, h3⟩ := ih (by omega)
      by_cases q : z = n
      · by_cases p : ltS (l.getD n dP).1 name
        · refine ⟨n + 1, Nat.le_refl _, fun t ht => ?_, fun t h4 h5 => by omega⟩
          rcases Nat.lt_or_ge t n with w | w
          · exact h2 t (by omega)
          · have : t = n := by omega
            subst this; exact p
        · refine ⟨n, by omega, fun t ht => h2 t (by omega), fun t h4 h5 => ?_⟩
          have : t = n := by omega
          subst this; exact p
      · refine ⟨z, by omega, h2, fun t h4 h5 => ?_⟩
        rcases Nat.lt_or_ge t n with w | w
        · exact h3 t h4 w
        · have : t = n := by omega
          subst this
          exact fun p => h3 z (Nat.le_refl _) (by omega) (ltS_trans (hs.lt t z (by omega) (by omega)) p)
  exact this l.length (Nat.le_refl _)
open Classical in
/-- Where a name stands among properties that rise, or would. -/
noncomputable def zOf (l : List Prp) (name : ByteArray) : Nat := if hs : Srt l then Classical.choose (exists_z l name hs) else 0
theorem zOf_spec {l : List Prp} {name : ByteArray} (hs : Srt l) : zOf l name ≤ l.length ∧ (∀ t, t < zOf l name → ltS (l.getD t dP).1 name) ∧ (∀ t, zOf l name ≤ t → t < l.length → ¬ ltS (l.getD t dP).1 name) := by
  unfold zOf
  rw [dif_pos hs]
  exact Classical.choose_spec (exists_z l name hs)
theorem find_loop0 (l : List Prp) (name : ByteArray) (hl : l.length < 9223372036854775808) (hs : Srt l) {f : Int × Int → Option ((Int × Int) ⊕ (Int ⊕ (Int × Bool)))}
    (h1 : ∀ i j : Nat, i < j → j ≤ l.length → f ((i : Int), (j : Int)) = some (.inl (if ltS (l.getD ((i + j) / 2) dP).1 name then ((((i + j) / 2 + 1 : Nat) : Int), (j : Int)) else ((i : Int), (((i + j) / 2 : Nat) : Int)))))
    (h2 : ∀ i : Nat, f ((i : Int), (i : Int)) = some (.inr (.inl (i : Int)))) : P.iter K f (0, P.len l) = some (.inl (zOf l name : Int)) := by
  obtain ⟨z, e, p1, p2, p3⟩ := find_loop l name hl hs f h1 h2 l.length 0 l.length K (by omega) (by omega) (Nat.le_refl _) (by unfold K; omega) (fun t ht => by omega) (fun t h1 h2 => by omega)
  obtain ⟨q1, q2, q3⟩ := zOf_spec (name := name) hs
  have : z = zOf l name := by
    rcases Nat.lt_trichotomy z (zOf l name) with h | h | h
    · exact absurd (q2 z h) (p3 z (Nat.le_refl _) (by omega))
    · exact h
    · exact absurd (p2 _ h) (q3 _ (Nat.le_refl _) (by omega))
  rw [← this]
  exact e

theorem mid_eq {i j : Nat} (hij : i < j) (hj : j < 9223372036854775808) : P.wrap .i64 (P.shrk .u64 (P.wrap .u64 (P.wrap .i64 (P.add (i : Int) (j : Int)))) 1) = (((i + j) / 2 : Nat) : Int) := by
  have e0 : P.add (i : Int) (j : Int) = ((i + j : Nat) : Int) := by simp [P.add]
  have e1 : P.wrap .u64 (P.wrap .i64 (P.add (i : Int) (j : Int))) = ((i + j : Nat) : Int) := by
    rw [e0]
    show IntKind.u64.wrap (IntKind.i64.wrap _) = _
    simp only [IntKind.wrap, IntKind.bits, IntKind.signed]
    simp
    omega
  have e2 : P.shrk .u64 (P.wrap .u64 (P.wrap .i64 (P.add (i : Int) (j : Int)))) 1 = (((i + j) / 2 : Nat) : Int) := by
    rw [e1]
    simp [P.shrk, IntKind.bits]
    rw [Int.fdiv_eq_ediv_of_nonneg _ (by omega)]
  rw [e2]
  exact wrap_nat (by omega)

theorem compare_eq (a b : ByteArray) : strings_Compare K (a, b) = some (cmpS a b) := rfl

theorem st_find (o : Ob) (name : ByteArray) (hl : o.1.length < 9223372036854775808) (hs : Srt o.1) :
    store_find K (o, name) = some ((zOf o.1 name : Int), decide (zOf o.1 name < o.1.length ∧ (o.1.getD (zOf o.1 name) dP).1 = name)) := by
  obtain ⟨q1, q2, q3⟩ := zOf_spec (name := name) hs
  unfold store_find
  dsimp only
  rw [find_loop0 o.1 name hl hs ?_ ?_]
  · rw [bind_some, either_inl]
    simp only [cond_eq, ilt_iff, inb_iff, len_eq, get_nat, compare_eq, bind_some]
    by_cases h : zOf o.1 name < o.1.length
    · rw [if_pos (by omega), if_pos ⟨by omega, by omega⟩, Option.some.injEq, Prod.mk.injEq]
      refine ⟨rfl, ?_⟩
      rw [Bool.eq_iff_iff, ieq_iff, cmpS_eq, decide_eq_true_eq]
      simp [h]
    · rw [if_neg (by omega)]
      simp [h]
  · intro i j hij hj
    simp only [cond_eq, ilt_iff, inb_iff, ile_iff, len_eq]
    rw [mid_eq hij (by omega), if_pos (by omega), if_pos (by omega), if_pos ⟨by omega, by omega⟩]
    simp only [get_nat, compare_eq, bind_some, cmpS_lt]
    rw [wrap_succ (by omega)]
    split <;> rfl
  · intro i
    simp only [cond_eq, ilt_iff]
    rw [if_neg (by omega)]
/-! ### through prototypes -/
def lookM (s : List Ob) (name : ByteArray) : Nat → Val → Option Val
  | 0, _ => none
  | m + 1, v => if v.1 = 4 ∧ Right s.length v then match ownM (s.getD v.2.toNat dO).1 name with
      | some w => some w
      | none => lookM s name m (s.getD v.2.toNat dO).2
    else none
def getM (s : List Ob) (v : Val) (name : ByteArray) : Option Val := if MayS s then lookM s name (s.length + 1) v else none

theorem MayS.srt {s : List Ob} (h : MayS s) {i : Nat} (hi : i < s.length) : Srt (s.getD i dO).1 := fun k h0 hk => ((h i hi).1 k hk).2 h0

theorem right4 {n : Nat} {v : Val} (h4 : v.1 = 4) (h : Right n v) : 0 ≤ v.2 ∧ v.2 < n := by
  unfold Right at h; omega
theorem look_loop (s : List Ob) (name : ByteArray) (hf : Fits s) (hm : MayS s) {f : Val → Option (Val ⊕ (PUnit ⊕ (Val × Bool)))} (h1 : ∀ v : Val, ¬ (v.1 = 4 ∧ Right s.length v) → f v = some (.inr (.inl ())))
    (h2 : ∀ v : Val, v.1 = 4 → Right s.length v → f v = some (match ownM (s.getD v.2.toNat dO).1 name with
      | some w => .inr (.inr (w, true))
      | none => .inl (s.getD v.2.toNat dO).2)) (v : Val) : P.iter K f v = some (match lookM s name (s.length + 1) v with
      | some w => .inr (w, true)
      | none => .inl ()) := by
  have key : ∀ (m k : Nat) (v : Val), (v.1 = 4 → Right s.length v → v.2 < m) → m < k → P.iter k f v = some (match lookM s name (m + 1) v with
      | some w => .inr (w, true)
      | none => .inl ()) := by
    intro m
    induction m with
    | zero =>
      intro k v hv hk
      have hno : ¬ (v.1 = 4 ∧ Right s.length v) := fun ⟨a, b⟩ => by have := hv a b; have := right4 a b; omega
      rw [iter_done (by omega) (h1 v hno), lookM, if_neg hno]
    | succ m ih =>
      intro k v hv hk
      by_cases h : v.1 = 4 ∧ Right s.length v
      · have hr := right4 h.1 h.2
        have hlt : v.2.toNat < s.length := by omega
        have hp := (hm v.2.toNat hlt).2
        have hstep := h2 v h.1 h.2
        rw [lookM, if_pos h]
        cases q : ownM (s.getD v.2.toNat dO).1 name with
        | some w =>
          rw [q] at hstep
          rw [iter_done (by omega) hstep]
        | none =>
          rw [q] at hstep
          rw [iter_step (by omega) hstep]
          refine ih (k - 1) _ (fun a b => ?_) (by omega)
          have := hv h.1 h.2
          unfold ProtoOk at hp
          omega
      · rw [iter_done (by omega) (h1 v h), lookM, if_neg h]
  exact key s.length K v (fun a b => (right4 a b).2) (by have := hf.1; unfold K; omega)

theorem ref_get (s : List Ob) (v : Val) (name : ByteArray) (hf : Fits s) : ref19_Get K (s, v, name) = some (tell (getM s v name)) := by
  unfold ref19_Get
  dsimp only
  rw [ref_may s hf, bind_some]
  unfold getM
  by_cases hm : MayS s
  · rw [if_pos hm]
    simp only [hm, decide_true]
    rw [look_loop s name hf hm ?_ ?_]
    · rw [cond_eq, if_neg (by simp [P.not]), bind_some]
      cases lookM s name (s.length + 1) v <;> rfl
    · intro v hv
      simp only [cond_eq, ieq_iff]
      by_cases h4 : v.1 = 4
      · rw [if_pos h4, ref_right, bind_some, if_neg (by simpa using fun q => hv ⟨h4, q⟩)]
      · rw [if_neg h4]
    · intro v h4 hr
      have hb := right4 h4 hr
      have hlt : v.2.toNat < s.length := by omega
      have e : (v.2.toNat : Int) = v.2 := by omega
      have hl := hf.2 _ hlt
      simp only [cond_eq, ieq_iff, inb_iff, len_eq]
      rw [if_pos h4, ref_right, bind_some, if_pos (by simpa using hr), if_pos ⟨by omega, by omega⟩, if_pos ⟨by omega, by omega⟩]
      have hg : P.get s v.2 (([], 0, 0) : Ob) = s.getD v.2.toNat dO := rfl
      rw [hg, ref_own _ _ hl, bind_some]
      cases ownM (s.getD v.2.toNat dO).1 name <;> rfl
  · rw [if_neg hm]
    simp only [hm, decide_false]
    rfl

theorem own_srt {l : List Prp} {name : ByteArray} (hs : Srt l) : ownM l name = if zOf l name < l.length ∧ (l.getD (zOf l name) dP).1 = name then some (l.getD (zOf l name) dP).2 else none := by
  obtain ⟨q1, q2, q3⟩ := zOf_spec (name := name) hs
  have uniq : ∀ t, t < l.length → (l.getD t dP).1 = name → t = zOf l name := by
    intro t ht he
    rcases Nat.lt_trichotomy t (zOf l name) with h | h | h
    · exact absurd (q2 t h) (by rw [he]; exact ltS_irrefl _)
    · exact h
    · exact absurd (hs.lt t _ h ht) (by rw [he]; exact q3 _ (Nat.le_refl _) (by omega))
  unfold ownM
  by_cases h : zOf l name < l.length ∧ (l.getD (zOf l name) dP).1 = name
  · rw [if_pos h]
    have : ∃ y, (List.range l.length).findSome? (fun i => if (l.getD i dP).1 = name then some (l.getD i dP).2 else none) = some y := by
      rw [← Option.isSome_iff_exists, List.findSome?_isSome_iff]
      exact ⟨zOf l name, List.mem_range.2 h.1, by rw [if_pos h.2]; rfl⟩
    obtain ⟨y, hy⟩ := this
    rw [hy]
    obtain ⟨j, hj1, hj⟩ := List.exists_of_findSome?_eq_some hy
    have hj1 := List.mem_range.1 hj1
    by_cases q : (l.getD j dP).1 = name
    · rw [if_pos q] at hj
      rw [← hj, uniq j hj1 q]
    · rw [if_neg q] at hj; cases hj
  · rw [if_neg h, List.findSome?_eq_none_iff]
    intro t ht
    have ht := List.mem_range.1 ht
    rw [if_neg]
    intro q
    have := uniq t ht q
    subst this
    exact h ⟨ht, q⟩

theorem st_look (s : List Ob) (v : Val) (name : ByteArray) (hf : Fits s) (hm : MayS s) : store_Look K (s, v, name) = some (tell (lookM s name (s.length + 1) v)) := by
  unfold store_Look
  dsimp only
  rw [look_loop s name hf hm ?_ ?_]
  · rw [bind_some]
    cases lookM s name (s.length + 1) v <;> rfl
  · intro v hv
    simp only [cond_eq, ieq_iff]
    by_cases h4 : v.1 = 4
    · rw [if_pos h4, st_right, bind_some, if_neg (by simpa using fun q => hv ⟨h4, q⟩)]
    · rw [if_neg h4]
  · intro v h4 hr
    have hb := right4 h4 hr
    have hlt : v.2.toNat < s.length := by omega
    have hl := hf.2 _ hlt
    simp only [cond_eq, ieq_iff, inb_iff, len_eq]
    rw [if_pos h4, st_right, bind_some, if_pos (by simpa using hr), if_pos ⟨by omega, by omega⟩]
    have hg : P.get s v.2 (([], 0, 0) : Ob) = s.getD v.2.toNat dO := rfl
    rw [hg, st_find _ _ hl (hm.srt hlt), bind_some, own_srt (hm.srt hlt)]
    simp only [decide_eq_true_eq, get_nat]
    generalize s.getD v.2.toNat dO = o at *
    by_cases h : zOf o.1 name < o.1.length ∧ (o.1.getD (zOf o.1 name) dP).1 = name
    · rw [if_pos h, if_pos ⟨by omega, by omega⟩, if_pos h]
    · rw [if_neg h, if_neg h]

theorem st_get (s : List Ob) (v : Val) (name : ByteArray) (hf : Fits s) : store_Get K (s, v, name) = some (tell (getM s v name)) := by
  unfold store_Get
  dsimp only
  rw [st_may s hf, bind_some]
  unfold getM
  by_cases hm : MayS s
  · rw [if_pos hm]
    simp only [hm, decide_true]
    rw [st_look s v name hf hm]
    rfl
  · rw [if_neg hm]
    simp only [hm, decide_false]
    rfl
end Go.PL

/- Lemmas for the claim. -/
import Derived.Test.YtoicfdfjjnfgaaaG5
import Derived.KernelRfl
import Derived.Test.YtoicfdfjjnfgaaaG4
set_option linter.all false
section
open Go Go.PG Go.PL
set_option linter.unusedVariables false
namespace Go.PL.Sto
abbrev Val := Int × Int
abbrev Prp := ByteArray × Val
abbrev Ob := List Prp × Val
def Right (n : Nat) (v : Val) : Prop := (v.1 = 0 ∧ v.2 = 0) ∨ (v.1 = 1 ∧ (v.2 = 0 ∨ v.2 = 1)) ∨ v.1 = 2 ∨ (v.1 = 3 ∧ 0 ≤ v.2) ∨ (v.1 = 4 ∧ 0 ≤ v.2 ∧ v.2 < n)
instance (n : Nat) (v : Val) : Decidable (Right n v) := by unfold Right; exact inferInstance
theorem ref_right (k : Nat) (s : List Ob) (v : Val) : ref19_Right k (s, v) = some (decide (Right s.length v)) := by
  obtain ⟨a, b⟩ := v
  unfold ref19_Right
  dsimp only
  simp only [cond_eq, ieq_iff, ile_iff, ilt_iff, len_eq]
  repeat' split
  all_goals
    rw [Option.some.injEq, Bool.eq_iff_iff, decide_eq_true_eq]
    simp only [Right, ieq_iff, ile_iff, ilt_iff, true_iff, Bool.false_eq_true, false_iff]
    omega
theorem st_right (k : Nat) (s : List Ob) (v : Val) : store_Right k (s, v) = some (decide (Right s.length v)) := by
  obtain ⟨a, b⟩ := v
  unfold store_Right
  dsimp only
  simp only [cond_eq, ieq_iff, ile_iff, ilt_iff, len_eq]
  repeat' split
  all_goals
    rw [Option.some.injEq, Bool.eq_iff_iff, decide_eq_true_eq]
    simp only [Right, ieq_iff, ile_iff, ilt_iff, true_iff, Bool.false_eq_true, false_iff]
    omega
abbrev dP : Prp := (⟨#[]⟩, 0, 0)
abbrev dO : Ob := ([], 0, 0)
def PropOk (n : Nat) (l : List Prp) (i : Nat) : Prop := Right n (l.getD i dP).2 ∧ (0 < i → ltS (l.getD (i - 1) dP).1 (l.getD i dP).1)
instance (n : Nat) (l : List Prp) (i : Nat) : Decidable (PropOk n l i) := by unfold PropOk; exact inferInstance
def ProtoOk (i : Nat) (v : Val) : Prop := (v.1 = 0 ∧ v.2 = 0) ∨ (v.1 = 4 ∧ 0 ≤ v.2 ∧ v.2 < i)
instance (i : Nat) (v : Val) : Decidable (ProtoOk i v) := by unfold ProtoOk; exact inferInstance
def ObOk (n i : Nat) (o : Ob) : Prop := (∀ k, k < o.1.length → PropOk n o.1 k) ∧ ProtoOk i o.2
instance (n i : Nat) (o : Ob) : Decidable (ObOk n i o) := by unfold ObOk; exact inferInstance
def MayS (s : List Ob) : Prop := ∀ i, i < s.length → ObOk s.length i (s.getD i dO)
instance (s : List Ob) : Decidable (MayS s) := by unfold MayS; exact inferInstance
def Fits (s : List Ob) : Prop := s.length < 9223372036854775808 ∧ ∀ i, i < s.length → (s.getD i dO).1.length < 9223372036854775808
theorem ref_may (s : List Ob) (hf : Fits s) : ref19_May K s = some (decide (MayS s)) := by
  unfold ref19_May
  rw [iter_all (n := s.length) (e := .inl ()) (r := .inr false) (fun i => ObOk s.length i (s.getD i dO)) K ?_ ?_ (by have := hf.1; unfold K; omega)]
  · rw [bind_some]
    have : (∀ i, i < s.length → ObOk s.length i (s.getD i dO)) ↔ MayS s := Iff.rfl
    by_cases h : MayS s
    · rw [if_pos (this.2 h)]; simp [h, either_inl]
    · rw [if_neg (fun q => h (this.1 q))]; simp [h, either_inr]
  · intro i hi
    have hl := hf.2 i hi
    simp only [cond_eq, ilt_iff, inb_iff, len_eq, get_nat]
    rw [if_pos (by omega), if_pos (by omega)]
    generalize ho : s.getD i dO = o at *
    rw [iter_all (n := o.1.length) (e := .inl ()) (r := .inr (.inr (.inr false))) (fun j => PropOk s.length o.1 j) K ?_ ?_ (by unfold K; omega)]
    · rw [bind_some]
      have e1 : (∀ j, j < o.1.length → PropOk s.length o.1 j) ∧ ProtoOk i o.2 ↔ ObOk s.length i o := Iff.rfl
      by_cases h : ∀ j, j < o.1.length → PropOk s.length o.1 j
      · rw [if_pos h, either_inl]
        simp only [not_iff, and_iff, ieq_iff, ile_iff]
        rw [wrap_succ (by have := hf.1; omega)]
        have e2 : ObOk s.length i o ↔ ProtoOk i o.2 := ⟨fun q => q.2, fun q => ⟨h, q⟩⟩
        simp only [e2, ProtoOk]
        repeat' split
        all_goals first
          | rfl
          | (exfalso; omega)
      · rw [if_neg h, either_inr]
        have : ¬ ObOk s.length i o := fun q => h q.1
        simp [this]
    · intro j hj
      rw [if_pos (by omega), if_pos ⟨by omega, by omega⟩, ref_right, bind_some]
      simp only [not_iff, decide_eq_true_eq, get_nat]
      rw [wrap_succ (by omega)]
      by_cases h : Right s.length (o.1.getD j dP).2
      · rw [if_neg (not_not_intro h)]
        by_cases h0 : 0 < j
        · rw [if_pos (by omega), wrap_pred h0 (by omega), if_pos ⟨by omega, by omega⟩, if_pos ⟨by omega, by omega⟩]
          simp only [get_nat, slt_iff]
          by_cases h2 : ltS (o.1.getD (j - 1) dP).1 (o.1.getD j dP).1
          · rw [if_neg (not_not_intro h2), if_pos (show PropOk s.length o.1 j from ⟨h, fun _ => h2⟩)]
          · rw [if_pos h2, if_neg (show ¬ PropOk s.length o.1 j from fun q => h2 (q.2 h0))]
        · rw [if_neg (by omega), if_pos (show PropOk s.length o.1 j from ⟨h, fun q => absurd q h0⟩)]
      · rw [if_pos h, if_neg (show ¬ PropOk s.length o.1 j from fun q => h q.1)]
    · rw [if_neg (by omega)]
  · simp only [cond_eq, ilt_iff, len_eq]
    rw [if_neg (by omega)]
theorem st_may (s : List Ob) (hf : Fits s) : store_May K s = some (decide (MayS s)) := by
  unfold store_May
  rw [iter_all (n := s.length) (e := .inl ()) (r := .inr false) (fun i => ObOk s.length i (s.getD i dO)) K ?_ ?_ (by have := hf.1; unfold K; omega)]
  · rw [bind_some]
    have : (∀ i, i < s.length → ObOk s.length i (s.getD i dO)) ↔ MayS s := Iff.rfl
    by_cases h : MayS s
    · rw [if_pos (this.2 h)]; simp [h, either_inl]
    · rw [if_neg (fun q => h (this.1 q))]; simp [h, either_inr]
  · intro i hi
    have hl := hf.2 i hi
    simp only [cond_eq, ilt_iff, inb_iff, len_eq, get_nat]
    rw [if_pos (by omega), if_pos (by omega)]
    generalize ho : s.getD i dO = o at *
    rw [iter_all (n := o.1.length) (e := .inl ()) (r := .inr (.inr (.inr false))) (fun j => PropOk s.length o.1 j) K ?_ ?_ (by unfold K; omega)]
    · rw [bind_some]
      have e1 : (∀ j, j < o.1.length → PropOk s.length o.1 j) ∧ ProtoOk i o.2 ↔ ObOk s.length i o := Iff.rfl
      by_cases h : ∀ j, j < o.1.length → PropOk s.length o.1 j
      · rw [if_pos h, either_inl]
        simp only [not_iff, and_iff, ieq_iff, ile_iff]
        rw [wrap_succ (by have := hf.1; omega)]
        have e2 : ObOk s.length i o ↔ ProtoOk i o.2 := ⟨fun q => q.2, fun q => ⟨h, q⟩⟩
        simp only [e2, ProtoOk]
        repeat' split
        all_goals first
          | rfl
          | (exfalso; omega)
      · rw [if_neg h, either_inr]
        have : ¬ ObOk s.length i o := fun q => h q.1
        simp [this]
    · intro j hj
      rw [if_pos (by omega), if_pos ⟨by omega, by omega⟩, st_right, bind_some]
      simp only [not_iff, decide_eq_true_eq, get_nat]
      rw [wrap_succ (by omega)]
      by_cases h : Right s.length (o.1.getD j dP).2
      · rw [if_neg (not_not_intro h)]
        by_cases h0 : 0 < j
        · rw [if_pos (by omega), wrap_pred h0 (by omega), if_pos ⟨by omega, by omega⟩]
          simp only [get_nat, slt_iff]
          by_cases h2 : ltS (o.1.getD (j - 1) dP).1 (o.1.getD j dP).1
          · rw [if_neg (not_not_intro h2), if_pos (show PropOk s.length o.1 j from ⟨h, fun _ => h2⟩)]
          · rw [if_pos h2, if_neg (show ¬ PropOk s.length o.1 j from fun q => h2 (q.2 h0))]
        · rw [if_neg (by omega), if_pos (show PropOk s.length o.1 j from ⟨h, fun q => absurd q h0⟩)]
      · rw [if_pos h, if_neg (show ¬ PropOk s.length o.1 j from fun q => h q.1)]
    · rw [if_neg (by omega)]
  · simp only [cond_eq, ilt_iff, len_eq]
    rw [if_neg (by omega)]
def ownM (l : List Prp) (name : ByteArray) : Option Val := (List.range l.length).findSome? fun i => if (l.getD i dP).1 = name then some (l.getD i dP).2 else none
def tell (o : Option Val) : Val × Bool := match o with
  | some w => (w, true)
  | none => ((0, 0), false)
theorem ref_own (o : Ob) (name : ByteArray) (hl : o.1.length < 9223372036854775808) : ref19_own K (o, name) = some (tell (ownM o.1 name)) := by
  unfold ref19_own
  dsimp only
  rw [iter_find0 (n := o.1.length) (e := .inl ()) (fun i => if (o.1.getD i dP).1 = name then some (Sum.inr ((o.1.getD i dP).2, true)) else none) K ?_ ?_ (by unfold K; omega)]
  · rw [bind_some]
    have : (List.range o.1.length).findSome? (fun i => if (o.1.getD i dP).1 = name then some (Sum.inr (α := PUnit) ((o.1.getD i dP).2, true)) else none) = (ownM o.1 name).map fun w => Sum.inr (w, true) := by
      unfold ownM
      rw [List.map_findSome?]
      congr 1
      funext i
      simp only [Function.comp]
      split <;> rfl
    rw [this]
    cases ownM o.1 name <;> rfl
  · intro i hi
    simp only [cond_eq, ilt_iff, inb_iff, len_eq, get_nat, seq_iff]
    rw [if_pos (by omega), if_pos ⟨by omega, by omega⟩, wrap_succ (by omega)]
    by_cases h : (o.1.getD i dP).1 = name
    · rw [if_pos h, if_pos ⟨by omega, by omega⟩, if_pos h]
    · rw [if_neg h, if_neg h]
  · simp only [cond_eq, ilt_iff, len_eq]
    rw [if_neg (by omega)]
def Srt (l : List Prp) : Prop := ∀ i, 0 < i → i < l.length → ltS (l.getD (i - 1) dP).1 (l.getD i dP).1
theorem Srt.lt {l : List Prp} (h : Srt l) : ∀ (j i : Nat), i < j → j < l.length → ltS (l.getD i dP).1 (l.getD j dP).1 := by
  intro j
  induction j with
  | zero => intro i hi; omega
  | succ j ih =>
    intro i hi hj
    have h1 := h (j + 1) (by omega) hj
    rw [Nat.add_sub_cancel] at h1
    rcases Nat.lt_or_ge i j with q | q
    · exact ltS_trans (ih i q (by omega)) h1
    · have : i = j := by omega
      subst this; exact h1
theorem exists_z (l : List Prp) (name : ByteArray) (hs : Srt l) : ∃ z, z ≤ l.length ∧ (∀ t, t < z → ltS (l.getD t dP).1 name) ∧ (∀ t, z ≤ t → t < l.length → ¬ ltS (l.getD t dP).1 name) := by
  have : ∀ n, n ≤ l.length → ∃ z, z ≤ n ∧ (∀ t, t < z → ltS (l.getD t dP).1 name) ∧ (∀ t, z ≤ t → t < n → ¬ ltS (l.getD t dP).1 name) := by
    intro n
    induction n with
    | zero => intro _; exact ⟨0, Nat.le_refl _, fun t ht => by omega, fun t _ ht => by omega⟩
    | succ n ih =>
      intro hn
      obtain ⟨z, h1, h2, h3⟩ := ih (by omega)
      by_cases q : z = n
      · by_cases p : ltS (l.getD n dP).1 name
        · refine ⟨n + 1, Nat.le_refl _, fun t ht => ?_, fun t h4 h5 => by omega⟩
          rcases Nat.lt_or_ge t n with w | w
          · exact h2 t (by omega)
          · have : t = n := by omega
            subst this; exact p
        · refine ⟨n, by omega, fun t ht => h2 t (by omega), fun t h4 h5 => ?_⟩
          have : t = n := by omega
          subst this; exact p
      · refine ⟨z, by omega, h2, fun t h4 h5 => ?_⟩
        rcases Nat.lt_or_ge t n with w | w
        · exact h3 t h4 w
        · have : t = n := by omega
          subst this
          exact fun p => h3 z (Nat.le_refl _) (by omega) (ltS_trans (hs.lt t z (by omega) (by omega)) p)
  exact this l.length (Nat.le_refl _)
open Classical in
noncomputable def zOf (l : List Prp) (name : ByteArray) : Nat := if hs : Srt l then Classical.choose (exists_z l name hs) else 0
theorem zOf_spec {l : List Prp} {name : ByteArray} (hs : Srt l) : zOf l name ≤ l.length ∧ (∀ t, t < zOf l name → ltS (l.getD t dP).1 name) ∧ (∀ t, zOf l name ≤ t → t < l.length → ¬ ltS (l.getD t dP).1 name) := by
  unfold zOf
  rw [dif_pos hs]
  exact Classical.choose_spec (exists_z l name hs)
def lookM (s : List Ob) (name : ByteArray) : Nat → Val → Option Val
  | 0, _ => none
  | m + 1, v => if v.1 = 4 ∧ Right s.length v then match ownM (s.getD v.2.toNat dO).1 name with
      | some w => some w
      | none => lookM s name m (s.getD v.2.toNat dO).2
    else none
def getM (s : List Ob) (v : Val) (name : ByteArray) : Option Val := if MayS s then lookM s name (s.length + 1) v else none
theorem MayS.srt {s : List Ob} (h : MayS s) {i : Nat} (hi : i < s.length) : Srt (s.getD i dO).1 := fun k h0 hk => ((h i hi).1 k hk).2 h0
theorem right4 {n : Nat} {v : Val} (h4 : v.1 = 4) (h : Right n v) : 0 ≤ v.2 ∧ v.2 < n := by
  unfold Right at h; omega
theorem look_loop (s : List Ob) (name : ByteArray) (hf : Fits s) (hm : MayS s) {f : Val → Option (Val ⊕ (PUnit ⊕ (Val × Bool)))} (h1 : ∀ v : Val, ¬ (v.1 = 4 ∧ Right s.length v) → f v = some (.inr (.inl ())))
    (h2 : ∀ v : Val, v.1 = 4 → Right s.length v → f v = some (match ownM (s.getD v.2.toNat dO).1 name with
      | some w => .inr (.inr (w, true))
      | none => .inl (s.getD v.2.toNat dO).2)) (v : Val) : P.iter K f v = some (match lookM s name (s.length + 1) v with
      | some w => .inr (w, true)
      | none => .inl ()) := by
  have key : ∀ (m k : Nat) (v : Val), (v.1 = 4 → Right s.length v → v.2 < m) → m < k → P.iter k f v = some (match lookM s name (m + 1) v with
      | some w => .inr (w, true)
      | none => .inl ()) := by
    intro m
    induction m with
    | zero =>
      intro k v hv hk
      have hno : ¬ (v.1 = 4 ∧ Right s.length v) := fun ⟨a, b⟩ => by have := hv a b; have := right4 a b; omega
      rw [iter_done (by omega) (h1 v hno), lookM, if_neg hno]
    | succ m ih =>
      intro k v hv hk
      by_cases h : v.1 = 4 ∧ Right s.length v
      · have hr := right4 h.1 h.2
        have hlt : v.2.toNat < s.length := by omega
        have hp := (hm v.2.toNat hlt).2
        have hstep := h2 v h.1 h.2
        rw [lookM, if_pos h]
        cases q : ownM (s.getD v.2.toNat dO).1 name with
        | some w =>
          rw [q] at hstep
          rw [iter_done (by omega) hstep]
        | none =>
          rw [q] at hstep
          rw [iter_step (by omega) hstep]
          refine ih (k - 1) _ (fun a b => ?_) (by omega)
          have := hv h.1 h.2
          unfold ProtoOk at hp
          omega
      · rw [iter_done (by omega) (h1 v h), lookM, if_neg h]
  exact key s.length K v (fun a b => (right4 a b).2) (by have := hf.1; unfold K; omega)
theorem ref_get (s : List Ob) (v : Val) (name : ByteArray) (hf : Fits s) : ref19_Get K (s, v, name) = some (tell (getM s v name)) := by
  unfold ref19_Get
  dsimp only
  rw [ref_may s hf, bind_some]
  unfold getM
  by_cases hm : MayS s
  · rw [if_pos hm]
    simp only [hm, decide_true]
    rw [look_loop s name hf hm ?_ ?_]
    · rw [cond_eq, if_neg (by simp [P.not]), bind_some]
      cases lookM s name (s.length + 1) v <;> rfl
    · intro v hv
      simp only [cond_eq, ieq_iff]
      by_cases h4 : v.1 = 4
      · rw [if_pos h4, ref_right, bind_some, if_neg (by simpa using fun q => hv ⟨h4, q⟩)]
      · rw [if_neg h4]
    · intro v h4 hr
      have hb := right4 h4 hr
      have hlt : v.2.toNat < s.length := by omega
      have e : (v.2.toNat : Int) = v.2 := by omega
      have hl := hf.2 _ hlt
      simp only [cond_eq, ieq_iff, inb_iff, len_eq]
      rw [if_pos h4, ref_right, bind_some, if_pos (by simpa using hr), if_pos ⟨by omega, by omega⟩, if_pos ⟨by omega, by omega⟩]
      have hg : P.get s v.2 (([], 0, 0) : Ob) = s.getD v.2.toNat dO := rfl
      rw [hg, ref_own _ _ hl, bind_some]
      cases ownM (s.getD v.2.toNat dO).1 name <;> rfl
  · rw [if_neg hm]
    simp only [hm, decide_false]
    rfl
end Go.PL.Sto
end
section
open Go Go.PG Go.PL
set_option linter.unusedVariables false
set_option linter.unusedSimpArgs false
namespace Go.PL.Sto
noncomputable def zBk (l : List Prp) (nm : ByteArray) : Nat := if zOf l nm < l.length ∧ (l.getD (zOf l nm) dP).1 = nm then zOf l nm + 1 else zOf l nm
noncomputable def withM (l : List Prp) (nm : ByteArray) (w : Val) : List Prp := l.take (zOf l nm) ++ (nm, w) :: l.drop (zBk l nm)
theorem take_snoc {α : Type} {l : List α} {i : Nat} (h : i < l.length) (d : α) : l.take (i + 1) = l.take i ++ [l.getD i d] := by
  rw [List.take_succ_eq_append_getElem h]; simp [List.getD_eq_getElem?_getD, h]
theorem zBk_bd (l : List Prp) (nm : ByteArray) : zOf l nm ≤ zBk l nm ∧ zBk l nm ≤ zOf l nm + 1 := by
  unfold zBk; split <;> omega
theorem ref_with (l : List Prp) (nm : ByteArray) (w : Val) (hs : Srt l) (hl : l.length ≤ 1000000000) : ref19_With K (l, nm, w) = some (withM l nm w) := by
  obtain ⟨q1, q2, q3⟩ := zOf_spec (name := nm) hs
  obtain ⟨b1, b2⟩ := zBk_bd l nm
  have hgt : ∀ t, zOf l nm < t → t < l.length → ltS nm (l.getD t dP).1 := by
    intro t h1 h2
    have h3 := q3 _ (Nat.le_refl _) (by omega : zOf l nm < l.length)
    have h4 := hs.lt t _ h1 h2
    rcases ltS_tri (l.getD (zOf l nm) dP).1 nm with h | h | h
    · exact absurd h h3
    · rw [← h]; exact h4
    · exact ltS_trans h h4
  unfold ref19_With
  dsimp only
  let S : Nat → List Prp × Bool × Int := fun i => (if i ≤ zOf l nm then l.take i else l.take (zOf l nm) ++ (nm, w) :: (l.take i).drop (zBk l nm), decide (zOf l nm < i), (i : Int))
  have h0 : (([], false, 0) : List Prp × Bool × Int) = S 0 := by simp [S]
  rw [h0]
  rw [iter_run S (Sum.inl (if l.length ≤ zOf l nm then l else withM l nm w, decide (zOf l nm < l.length))) l.length 0 K (by unfold K; omega) ?_ ?_]
  · rw [bind_some, either_inl]
    simp only [cond_eq, not_iff, decide_eq_true_eq, room_nat, len_eq]
    by_cases h : l.length ≤ zOf l nm
    · have hz : zOf l nm = l.length := by omega
      have hb : zBk l nm = l.length := by unfold zBk; rw [if_neg (by omega)]; exact hz
      rw [if_pos (by omega), if_pos h, if_pos (by simp; omega)]
      simp [withM, P.app, hz, hb]
    · rw [if_neg (by omega), if_neg h]
  · intro i hi
    simp only [Nat.zero_add]
    have hw : P.wrap .i64 (P.add (i : Int) 1) = ((i + 1 : Nat) : Int) := wrap_succ (by omega)
    have len1 : (l.take i).length ≤ 1000000000 := by rw [List.length_take]; omega
    rcases Nat.lt_trichotomy i (zOf l nm) with h | h | h
    · have h5 := q2 i h
      have h6 : ¬ (ltS nm (l.getD i dP).1 ∨ nm = (l.getD i dP).1) := by
        rintro (z | z)
        · exact ltS_asymm h5 z
        · rw [← z] at h5; exact ltS_irrefl _ h5
      have h7 : ¬ (l.getD i dP).1 = nm := fun z => h6 (.inr z.symm)
      have e1 : S i = (l.take i, false, (i : Int)) := by simp only [S]; rw [if_pos (by omega)]; simp; omega
      have e2 : S (i + 1) = (l.take i ++ [l.getD i dP], false, ((i + 1 : Nat) : Int)) := by simp only [S]; rw [if_pos (by omega), take_snoc hi dP]; simp; omega
      rw [e1, e2]
      simp only [cond_eq, ilt_iff, inb_iff, room_nat, len_eq, not_iff, hw, sle_iff, seq_iff, get_nat, P.app]
      rw [if_pos (by omega), if_pos (by simp), if_pos (by omega), if_neg h6, if_pos (by omega), if_pos h7, if_pos (by omega), if_pos (by simp; omega)]
    · subst h
      have h5 := q3 _ (Nat.le_refl _) hi
      have h6 : ltS nm (l.getD (zOf l nm) dP).1 ∨ nm = (l.getD (zOf l nm) dP).1 := by
        rcases ltS_tri (l.getD (zOf l nm) dP).1 nm with h | h | h
        · exact absurd h h5
        · exact .inr h.symm
        · exact .inl h
      have e1 : S (zOf l nm) = (l.take (zOf l nm), false, (zOf l nm : Int)) := by simp only [S]; rw [if_pos (by omega)]; simp
      rw [e1]
      simp only [cond_eq, ilt_iff, inb_iff, room_nat, len_eq, not_iff, hw, sle_iff, seq_iff, get_nat, P.app]
      rw [if_pos (by omega), if_pos (by simp), if_pos (by omega), if_pos h6, if_pos (by simp; omega), if_pos (by omega)]
      by_cases h7 : (l.getD (zOf l nm) dP).1 = nm
      · have hb : zBk l nm = zOf l nm + 1 := by unfold zBk; rw [if_pos ⟨hi, h7⟩]
        have e2 : S (zOf l nm + 1) = (l.take (zOf l nm) ++ [(nm, w)], true, ((zOf l nm + 1 : Nat) : Int)) := by simp only [S]; rw [if_neg (by omega), hb]; simp
        rw [if_neg (not_not_intro h7), e2]
      · have hb : zBk l nm = zOf l nm := by unfold zBk; rw [if_neg (fun q => h7 q.2)]
        have e2 : S (zOf l nm + 1) = ((l.take (zOf l nm) ++ [(nm, w)]) ++ [l.getD (zOf l nm) dP], true, ((zOf l nm + 1 : Nat) : Int)) := by simp only [S]; rw [if_neg (by omega), hb, take_snoc hi dP]; simp [List.drop_append, Nat.min_eq_left q1]
        rw [if_pos h7, if_pos (by omega), if_pos (by simp; omega), e2]
    · have h5 := hgt i h hi
      have h7 : ¬ (l.getD i dP).1 = nm := fun z => by rw [z] at h5; exact ltS_irrefl _ h5
      have e1 : S i = (l.take (zOf l nm) ++ (nm, w) :: (l.take i).drop (zBk l nm), true, (i : Int)) := by simp only [S]; rw [if_neg (by omega)]; simp; omega
      have e2 : S (i + 1) = ((l.take (zOf l nm) ++ (nm, w) :: (l.take i).drop (zBk l nm)) ++ [l.getD i dP], true, ((i + 1 : Nat) : Int)) := by
        simp only [S]; rw [if_neg (by omega), take_snoc hi dP, List.drop_append_of_le_length (by rw [List.length_take]; omega)]; simp; omega
      rw [e1, e2]
      simp only [cond_eq, ilt_iff, inb_iff, room_nat, len_eq, not_iff, hw, sle_iff, seq_iff, get_nat, P.app]
      rw [if_pos (by omega), if_neg (by simp), if_pos (by omega), if_pos h7, if_pos (by omega), if_pos (by simp; omega)]
  · simp only [Nat.zero_add, S, cond_eq, ilt_iff, len_eq]
    rw [if_neg (by omega)]
    have e : l.take l.length = l := List.take_length
    rw [e]
    rfl
theorem range_findSome {α β : Type} (d : α) (g : α → Option β) : ∀ l : List α, (List.range l.length).findSome? (fun i => g (l.getD i d)) = l.findSome? g
  | [] => rfl
  | a :: l => by
    rw [List.length_cons, List.range_succ_eq_map, List.findSome?_cons, List.findSome?_cons]
    have : (List.map Nat.succ (List.range l.length)).findSome? (fun i => g ((a :: l).getD i d)) = l.findSome? g := by
      rw [List.findSome?_map, ← range_findSome d g l]
      rfl
    rw [this]
    rfl
theorem own_find (l : List Prp) (nm : ByteArray) : ownM l nm = l.findSome? fun p => if p.1 = nm then some p.2 else none :=
  range_findSome dP (fun p : Prp => if p.1 = nm then some p.2 else none) l
theorem srt_iff {l : List Prp} : Srt l ↔ l.Pairwise fun p q => ltS p.1 q.1 := by
  rw [List.pairwise_iff_getElem]
  constructor
  · intro h i j hi hj hij
    have := h.lt j i hij hj
    simpa [List.getD_eq_getElem?_getD, hi, hj] using this
  · intro h i h0 hi
    have := h (i - 1) i (by omega) hi (by omega)
    have h1 : i - 1 < l.length := by omega
    simpa [List.getD_eq_getElem?_getD, hi, h1] using this
theorem getD_mem {α : Type} {l : List α} {i : Nat} (h : i < l.length) (d : α) : l.getD i d ∈ l := by
  rw [List.getD_eq_getElem?_getD, List.getElem?_eq_getElem h]; exact List.getElem_mem h
theorem mem_getD {α : Type} {l : List α} {a : α} (h : a ∈ l) (d : α) : ∃ i, i < l.length ∧ l.getD i d = a := by
  obtain ⟨i, hi, e⟩ := List.getElem_of_mem h
  exact ⟨i, hi, by rw [List.getD_eq_getElem?_getD, List.getElem?_eq_getElem hi]; exact e⟩
theorem props_iff {n : Nat} {l : List Prp} : (∀ k, k < l.length → PropOk n l k) ↔ (∀ p, p ∈ l → Right n p.2) ∧ Srt l := by
  constructor
  · intro h
    refine ⟨fun p hp => ?_, fun i h0 hi => (h i hi).2 h0⟩
    obtain ⟨i, hi, e⟩ := mem_getD hp dP
    rw [← e]
    exact (h i hi).1
  · rintro ⟨h1, h2⟩ k hk
    exact ⟨h1 _ (getD_mem hk dP), fun h0 => h2 k h0 hk⟩
theorem split_z (l : List Prp) (nm : ByteArray) : l = l.take (zOf l nm) ++ l.drop (zOf l nm) := (List.take_append_drop _ _).symm
theorem take_lt {l : List Prp} {nm : ByteArray} (hs : Srt l) : ∀ p, p ∈ l.take (zOf l nm) → ltS p.1 nm := by
  intro p hp
  obtain ⟨q1, q2, q3⟩ := zOf_spec (name := nm) hs
  obtain ⟨i, hi, e⟩ := mem_getD hp dP
  rw [List.length_take] at hi
  have := q2 i (by omega)
  rw [← e]
  simpa [List.getD_eq_getElem?_getD, List.getElem?_take, show i < zOf l nm by omega] using this
theorem drop_lt {l : List Prp} {nm : ByteArray} (hs : Srt l) : ∀ p, p ∈ l.drop (zBk l nm) → ltS nm p.1 := by
  intro p hp
  obtain ⟨q1, q2, q3⟩ := zOf_spec (name := nm) hs
  obtain ⟨i, hi, e⟩ := mem_getD hp dP
  rw [List.length_drop] at hi
  have e1 : (l.drop (zBk l nm)).getD i dP = l.getD (zBk l nm + i) dP := by simp [List.getD_eq_getElem?_getD, List.getElem?_drop]
  rw [← e, e1]
  by_cases h : zOf l nm < l.length ∧ (l.getD (zOf l nm) dP).1 = nm
  · have hb : zBk l nm = zOf l nm + 1 := by unfold zBk; rw [if_pos h]
    have := hs.lt (zBk l nm + i) (zOf l nm) (by omega) (by omega)
    rw [h.2] at this
    exact this
  · have hb : zBk l nm = zOf l nm := by unfold zBk; rw [if_neg h]
    have h3 := q3 (zBk l nm + i) (by omega) (by omega)
    rcases ltS_tri (l.getD (zBk l nm + i) dP).1 nm with z | z | z
    · exact absurd z h3
    · exfalso
      rcases Nat.eq_zero_or_pos i with w | w
      · subst w
        rw [hb, Nat.add_zero] at z
        exact h ⟨by omega, z⟩
      · have h4 := hs.lt (zBk l nm + i) (zOf l nm) (by omega) (by omega)
        rw [z] at h4
        exact q3 _ (Nat.le_refl _) (by omega) h4
    · exact z
theorem with_srt {l : List Prp} (nm : ByteArray) (w : Val) (hs : Srt l) : Srt (withM l nm w) := by
  have hp := srt_iff.1 hs
  rw [srt_iff]
  unfold withM
  rw [List.pairwise_append, List.pairwise_cons]
  refine ⟨hp.sublist (List.take_sublist _ _), ⟨fun q hq => drop_lt hs q hq, hp.sublist (List.drop_sublist _ _)⟩, fun p h1 q h2 => ?_⟩
  have h3 := take_lt hs p h1
  rcases List.mem_cons.1 h2 with rfl | h2
  · exact h3
  · exact ltS_trans h3 (drop_lt hs q h2)
theorem with_mem {l : List Prp} {nm : ByteArray} {w : Val} {p : Prp} (h : p ∈ withM l nm w) : p = (nm, w) ∨ p ∈ l := by
  unfold withM at h
  rcases List.mem_append.1 h with h | h
  · exact .inr (List.mem_of_mem_take h)
  · rcases List.mem_cons.1 h with h | h
    · exact .inl h
    · exact .inr (List.mem_of_mem_drop h)
theorem with_len (l : List Prp) (nm : ByteArray) (w : Val) : (withM l nm w).length ≤ l.length + 1 := by
  obtain ⟨b1, b2⟩ := zBk_bd l nm
  unfold withM
  simp
  omega
theorem own_with {l : List Prp} (nm nm' : ByteArray) (w : Val) (hs : Srt l) : ownM (withM l nm w) nm' = if nm' = nm then some w else ownM l nm' := by
  rw [own_find, own_find]
  unfold withM
  rw [List.findSome?_append, List.findSome?_cons]
  by_cases h : nm' = nm
  · subst h
    have : (l.take (zOf l nm')).findSome? (fun p => if p.1 = nm' then some p.2 else none) = none := by
      rw [List.findSome?_eq_none_iff]
      intro p hp
      rw [if_neg]
      intro e
      have := take_lt hs p hp
      rw [e] at this
      exact ltS_irrefl _ this
    rw [this]
    simp
  · rw [if_neg h, if_neg (fun e => h e.symm)]
    simp only
    conv => rhs; rw [split_z l nm]
    rw [List.findSome?_append]
    congr 1
    by_cases h2 : zOf l nm < l.length ∧ (l.getD (zOf l nm) dP).1 = nm
    · have hb : zBk l nm = zOf l nm + 1 := by unfold zBk; rw [if_pos h2]
      rw [hb, List.drop_eq_getElem_cons h2.1, List.findSome?_cons]
      have e : (l[zOf l nm]'h2.1).1 = nm := by
        have := h2.2
        rw [List.getD_eq_getElem?_getD, List.getElem?_eq_getElem h2.1] at this
        exact this
      rw [if_neg (by rw [e]; exact fun q => h q.symm)]
    · have hb : zBk l nm = zOf l nm := by unfold zBk; rw [if_neg h2]
      rw [hb]
noncomputable def setS (s : List Ob) (i : Nat) (nm : ByteArray) (w : Val) : List Ob := s.set i (withM (s.getD i dO).1 nm w, (s.getD i dO).2)
open Classical in
noncomputable def setM (s : List Ob) (v : Val) (nm : ByteArray) (w : Val) : List Ob × Bool := if MayS s ∧ v.1 = 4 ∧ Right s.length v ∧ Right s.length w then (setS s v.2.toNat nm w, true) else ([], false)
theorem ref_set (s : List Ob) (v : Val) (nm : ByteArray) (w : Val) (hf : Fits s) (hs : s.length ≤ 1000000000) (hp : ∀ i, i < s.length → (s.getD i dO).1.length ≤ 1000000000) : ref19_Set K (s, v, nm, w) = some (setM s v nm w) := by
  unfold ref19_Set setM
  have e1 : P.app ([] : List Ob) s = s := by simp [P.app]
  have e2 : P.nil (List (ByteArray × Int × Int) × Int × Int) = [] := rfl
  dsimp only
  rw [ref_may s hf, ref_right, ref_right, e1, e2]
  simp only [cond_eq, bind_some, len_eq, room_nat, not_iff, decide_eq_true_eq, ieq_iff, inb_iff]
  by_cases h1 : MayS s
  · rw [if_neg (not_not_intro h1)]
    by_cases h2 : v.1 = 4
    · rw [if_neg (not_not_intro h2)]
      by_cases h3 : Right s.length v
      · rw [if_neg (not_not_intro h3)]
        by_cases h4 : Right s.length w
        · have hr := right4 h2 h3
          have hlt : v.2.toNat < s.length := by omega
          have hg : P.get s v.2 (([], 0, 0) : Ob) = s.getD v.2.toNat dO := rfl
          rw [if_neg (not_not_intro h4), if_pos (by simp; omega), if_pos (by omega), hg, ref_with _ nm w (h1.srt hlt) (hp _ hlt), bind_some, if_pos (by omega), if_pos ⟨h1, h2, h3, h4⟩]
          rfl
        · rw [if_pos h4, if_neg (fun q => h4 q.2.2.2)]
      · rw [if_pos h3, if_neg (fun q => h3 q.2.2.1)]
    · rw [if_pos h2, if_neg (fun q => h2 q.2.1)]
  · rw [if_pos h1, if_neg (fun q => h1 q.1)]
theorem setS_len (s : List Ob) (i : Nat) (nm : ByteArray) (w : Val) : (setS s i nm w).length = s.length := by simp [setS]
theorem setS_at {s : List Ob} {i : Nat} (h : i < s.length) (nm : ByteArray) (w : Val) : (setS s i nm w).getD i dO = (withM (s.getD i dO).1 nm w, (s.getD i dO).2) := by
  simp [setS, List.getD_eq_getElem?_getD, h]
theorem setS_ne {s : List Ob} {i j : Nat} (h : i ≠ j) (nm : ByteArray) (w : Val) : (setS s i nm w).getD j dO = s.getD j dO := by
  simp [setS, List.getD_eq_getElem?_getD, List.getElem?_set_ne h]
theorem may_set {s : List Ob} {i : Nat} {nm : ByteArray} {w : Val} (hm : MayS s) (hi : i < s.length) (hw : Right s.length w) : MayS (setS s i nm w) := by
  intro j hj
  rw [setS_len] at hj ⊢
  by_cases h : i = j
  · subst h
    rw [setS_at hi]
    obtain ⟨h1, h2⟩ := hm i hi
    obtain ⟨h3, h4⟩ := props_iff.1 h1
    refine ⟨props_iff.2 ⟨fun p hp => ?_, with_srt nm w h4⟩, h2⟩
    rcases with_mem hp with rfl | hp
    · exact hw
    · exact h3 p hp
  · rw [setS_ne h]
    exact hm j hj
end Go.PL.Sto
end
section
open Go Go.PG Go.PL
set_option linter.all false
namespace Go.PL.Cf
open Go.PL.Sto (Val Prp Ob dP dO Right)
abbrev Fr := List Prp × List Int × List (List Int)
def FewF (f : Fr) : Prop := f.1.length ≤ 100000 ∧ f.2.1.length ≤ 100000 ∧ f.2.2.length ≤ 100000 ∧ ∀ l, l ∈ f.2.2 → l.length ≤ 100000
theorem loop_any {α ρ σ : Type} (l : List α) (d : α) (q : α → Prop) [DecidablePred q] (r : ρ) {f : Int → Option (Int ⊕ (Unit ⊕ ρ))} {A : Option σ} {B : ρ → Option σ} (hn : l.length ≤ 1000000000)
    (hs : ∀ i : Nat, i < l.length → f (i : Int) = some (if q (l.getD i d) then .inr (.inr r) else .inl ((i + 1 : Nat) : Int))) (he : f (l.length : Int) = some (.inr (.inl ()))) :
    P.bind (P.iter K f 0) (P.either (fun (_ : Unit) => A) B) = if (l.any fun x => decide (q x)) = true then B r else A := by
  rw [loop_find l d q (fun _ => r) hn hs he]
  cases h : l.find? fun x => decide (q x) with
  | none =>
    rw [if_neg]
    rw [List.any_eq_true]
    rintro ⟨x, hx, hq⟩
    have := List.find?_eq_none.1 h x hx
    exact this hq
  | some x =>
    rw [if_pos]
    rw [List.any_eq_true]
    exact ⟨x, List.mem_of_find?_eq_some h, by simpa using List.find?_some h⟩
theorem loop_every {α ρ σ : Type} (l : List α) (d : α) (q : α → Prop) [DecidablePred q] (r : ρ) {f : Int → Option (Int ⊕ (Unit ⊕ ρ))} {A : Option σ} {B : ρ → Option σ} (hn : l.length ≤ 1000000000)
    (hs : ∀ i : Nat, i < l.length → f (i : Int) = some (if q (l.getD i d) then .inl ((i + 1 : Nat) : Int) else .inr (.inr r))) (he : f (l.length : Int) = some (.inr (.inl ()))) :
    P.bind (P.iter K f 0) (P.either (fun (_ : Unit) => A) B) = if (l.all fun x => decide (q x)) = true then A else B r := by
  rw [loop_all l.length (fun i => q (l.getD i d)) hn hs he]
  by_cases h : (l.all fun x => decide (q x)) = true
  · rw [if_pos h, if_pos]
    intro i hi
    simpa using List.all_eq_true.1 h _ (getD_mem hi d)
  · rw [if_neg h, if_neg]
    intro q'
    apply h
    rw [List.all_eq_true]
    intro x hx
    simpa using (forall_getD d).1 q' x hx
def ofB (f : Fr) (v : Val) (x : At) : Bool :=
  if x.1 = 0 then decide (v.1 = 0) else if x.1 = 1 then decide (v.1 = 1) else if x.1 = 2 then decide (v.1 = 2) else if x.1 = 3 then decide (v.1 = 3 ∧ v.2 = x.2)
  else if x.1 = 4 then decide (v.1 = 4 ∧ 0 ≤ x.2 ∧ x.2 < f.2.1.length ∧ 0 ≤ f.2.1.getD x.2.toNat 0 ∧ f.2.1.getD x.2.toNat 0 = v.2)
  else if x.1 = 5 then decide (v.1 = 4 ∧ 0 ≤ x.2 ∧ x.2 < f.2.2.length ∧ v.2 ∈ f.2.2.getD x.2.toNat []) else decide (x.1 = 6)
def valB (f : Fr) (v : Val) (a : List At) : Bool := a.any (ofB f v)
theorem at_newest (k : Nat) (f : Fr) (x : Int) : conform_newest k (f, x) = some (if 0 ≤ x ∧ x < f.2.1.length then f.2.1.getD x.toNat 0 else -1) := by
  unfold conform_newest
  try dsimp only
  rw [ilt_dec, cond_dec, ile_dec, cond_dec, len_eq]
  by_cases h : x < 0
  · rw [if_pos h, if_neg (by omega)]
  · rw [if_neg h]
    by_cases h2 : (f.2.1.length : Int) ≤ x
    · rw [if_pos h2, if_neg (by omega)]
    · rw [if_neg h2, if_pos (by omega)]
      rw [show P.inb x (f.2.1.length : Int) = true by unfold P.inb; simp; omega, cond_true]
      rfl
theorem older_few {f : Fr} (h : FewF f) (i : Nat) : (f.2.2.getD i []).length ≤ 100000 := by
  by_cases hi : i < f.2.2.length
  · exact h.2.2.2 _ (getD_mem hi [])
  · rw [List.getD_eq_getElem?_getD, List.getElem?_eq_none (by omega)]; simp
theorem has_loop {ρ σ : Type} (l : List Int) (v : Int) (hl : l.length ≤ 100000) {f : Int → Option (Int ⊕ (Unit ⊕ ρ))} {A : Option σ} {B : ρ → Option σ} {r : ρ}
    (hs : ∀ i : Nat, i < l.length → f (i : Int) = some (if v = l.getD i 0 then .inr (.inr r) else .inl ((i + 1 : Nat) : Int))) (he : f (l.length : Int) = some (.inr (.inl ()))) :
    P.bind (P.iter K f 0) (P.either (fun (_ : Unit) => A) B) = if v ∈ l then B r else A := by
  rw [loop_any l 0 (fun x => v = x) r (by omega) hs he]
  by_cases h : v ∈ l
  · rw [if_pos h, if_pos]
    rw [List.any_eq_true]
    exact ⟨v, h, by simp⟩
  · rw [if_neg h, if_neg]
    rw [List.any_eq_true]
    rintro ⟨x, hx, q⟩
    simp only [decide_eq_true_eq] at q
    exact h (q ▸ hx)
theorem ile_nat (i : Nat) : P.ile 0 (i : Int) = true := by rw [ile_dec]; simp
theorem at_of (f : Fr) (v : Val) (x : At) (h : FewF f) : conform_of K (f, v, x) = some (ofB f v x) := by
  unfold conform_of ofB
  try dsimp only
  simp only [ieq_eq, cond_dec]
  by_cases h0 : x.1 = 0
  · rw [if_pos h0, if_pos h0]
  rw [if_neg h0, if_neg h0]
  by_cases h1 : x.1 = 1
  · rw [if_pos h1, if_pos h1]
  rw [if_neg h1, if_neg h1]
  by_cases h2 : x.1 = 2
  · rw [if_pos h2, if_pos h2]
  rw [if_neg h2, if_neg h2]
  by_cases h3 : x.1 = 3
  · rw [if_pos h3, if_pos h3]
    congr 1
    rw [Bool.eq_iff_iff, and_iff]
    simp
  rw [if_neg h3, if_neg h3]
  by_cases h4 : x.1 = 4
  · rw [if_pos h4, if_pos h4]
    by_cases c : v.1 = 4
    · rw [if_pos c, at_newest, bind_some, bind_some, ile_dec, cond_dec]
      by_cases b : 0 ≤ x.2 ∧ x.2 < f.2.1.length
      · rw [if_pos b]
        by_cases n : 0 ≤ f.2.1.getD x.2.toNat 0
        · rw [if_pos n]
          congr 1
          rw [Bool.eq_iff_iff, decide_eq_true_eq, decide_eq_true_eq]
          exact ⟨fun q => ⟨c, b.1, b.2, n, q⟩, fun q => q.2.2.2.2⟩
        · rw [if_neg n]
          congr 1
          symm
          rw [decide_eq_false_iff_not]
          exact fun q => n q.2.2.2.1
      · rw [if_neg b, if_neg (by decide)]
        congr 1
        symm
        rw [decide_eq_false_iff_not]
        exact fun q => b ⟨q.2.1, q.2.2.1⟩
    · rw [if_neg c]
      congr 1
      symm
      rw [decide_eq_false_iff_not]
      exact fun q => c q.1
  rw [if_neg h4, if_neg h4]
  by_cases h5 : x.1 = 5
  · rw [if_pos h5, if_pos h5]
    by_cases c : v.1 = 4
    · rw [if_pos c, ile_dec, cond_dec, ilt_dec, cond_dec, len_eq]
      by_cases b : 0 ≤ x.2
      · rw [if_pos b]
        by_cases b2 : x.2 < f.2.2.length
        · rw [if_pos b2, show P.inb x.2 (f.2.2.length : Int) = true by unfold P.inb; simp; omega, cond_true]
          rw [has_loop (f.2.2.getD x.2.toNat []) v.2 (older_few h _) (r := true) ?_ ?_]
          · by_cases m : v.2 ∈ f.2.2.getD x.2.toNat []
            · rw [if_pos m]
              congr 1
              symm
              rw [decide_eq_true_eq]
              exact ⟨c, b, b2, m⟩
            · rw [if_neg m]
              congr 1
              symm
              show decide _ = false
              rw [decide_eq_false_iff_not]
              exact fun q => m q.2.2.2
          · intro i hi
            try dsimp only
            rw [show P.get f.2.2 x.2 [] = f.2.2.getD x.2.toNat [] from rfl, ilt_len hi, cond_true, inb_len hi, cond_true, get_nat, wrap_succ (by have := older_few h x.2.toNat; omega), ile_nat]
            split <;> rfl
          · try dsimp only
            rw [show P.get f.2.2 x.2 [] = f.2.2.getD x.2.toNat [] from rfl, ilt_end]
            rfl
        · rw [if_neg b2]
          congr 1
          symm
          rw [decide_eq_false_iff_not]
          exact fun q => b2 q.2.2.1
      · rw [if_neg b]
        congr 1
        symm
        rw [decide_eq_false_iff_not]
        exact fun q => b q.2.1
    · rw [if_neg c]
      congr 1
      symm
      rw [decide_eq_false_iff_not]
      exact fun q => c q.1
  rw [if_neg h5, if_neg h5]
theorem any_if {σ : Type} (l : List At) (p : At → Bool) (X Y : σ) : (if (l.any fun x => decide (p x = true)) = true then X else Y) = if l.any p = true then X else Y := by
  have : (l.any fun x => decide (p x = true)) = l.any p := by congr 1; funext x; simp
  rw [this]
theorem at_value (f : Fr) (v : Val) (a : List At) (h : FewF f) (ha : a.length ≤ 1000000) : conform_Value K (f, v, a) = some (valB f v a) := by
  unfold conform_Value
  try dsimp only
  rw [loop_any a dA (fun x => ofB f v x = true) true (by omega) ?_ ?_]
  · rw [any_if]
    unfold valB
    cases a.any (ofB f v) <;> rfl
  · intro i hi
    try dsimp only
    rw [ilt_len hi, cond_true, inb_len hi, cond_true, get_nat, at_of f v _ h, bind_some, ile_nat, wrap_succ (by omega)]
    cases ofB f v (a.getD i dA) <;> rfl
  · try dsimp only
    rw [ilt_end]
    rfl
end Go.PL.Cf
end
section
open Go Go.PG Go.PL
set_option linter.all false
namespace Go.PL.Cf
open Go.PL.Sto (Val Prp Ob dP dO Right)
def FewO (s : List Ob) : Prop := s.length ≤ 100000 ∧ ∀ o, o ∈ s → o.1.length ≤ 100000
theorem few_at {s : List Ob} (h : FewO s) (i : Nat) : (s.getD i dO).1.length ≤ 100000 := by
  by_cases hi : i < s.length
  · exact h.2 _ (getD_mem hi dO)
  · rw [List.getD_eq_getElem?_getD, List.getElem?_eq_none (by omega)]; simp
def hasP (l : List Prp) (n : ByteArray) : Bool := l.any fun p => decide (p.1 = n)
def prB (f : Fr) (o : Sp) (p : Prp) : Bool := (getR o.1 p.1).2 && valB f p.2 (getR o.1 p.1).1.2.2
def fdB (l : List Prp) (d : Fd) : Bool := !d.2.1 || hasP l d.1
def obB (f : Fr) (s : List Ob) (n : Int) (o : Sp) : Bool := if 0 ≤ n ∧ n < s.length then
  valB f (s.getD n.toNat dO).2 o.2 && ((s.getD n.toNat dO).1.all (prB f o) && o.1.all (fdB (s.getD n.toNat dO).1)) else false
theorem all_if {α σ : Type} (l : List α) (p : α → Bool) (X Y : σ) : (if (l.all fun x => decide (p x = true)) = true then X else Y) = if l.all p = true then X else Y := by
  have : (l.all fun x => decide (p x = true)) = l.all p := by congr 1; funext x; simp
  rw [this]
theorem getR_few' {o : Sp} (h : FewS o) (n : ByteArray) : (getR o.1 n).1.2.2.length ≤ 1000000 := by have := getR_few h n; omega
theorem at_object (f : Fr) (s : List Ob) (n : Int) (o : Sp) (hf : FewF f) (hs : FewO s) (ho : FewS o) : conform_Object K (f, s, n, o) = some (obB f s n o) := by
  unfold conform_Object obB
  try dsimp only
  rw [ilt_dec, cond_dec, ile_dec, cond_dec, len_eq]
  by_cases h : 0 ≤ n ∧ n < s.length
  · rw [if_pos h, if_neg (by omega), if_neg (by omega), show P.inb n (s.length : Int) = true by unfold P.inb; simp; omega, cond_true, cond_true]
    simp only [show P.get s n ([], 0, 0) = s.getD n.toNat dO from rfl, cond_true]
    have hl := few_at hs n.toNat
    generalize s.getD n.toNat dO = ob at hl
    rw [at_value f ob.2 o.2 hf (by have := ho.2.2; omega), bind_some]
    cases valB f ob.2 o.2 with
    | false => rfl
    | true =>
    rw [not_true, cond_false, Bool.true_and]
    rw [loop_every ob.1 dP (fun p => prB f o p = true) false (by omega) ?_ ?_]
    · rw [all_if]
      cases ob.1.all (prB f o) with
      | false => rfl
      | true =>
      rw [if_pos rfl, Bool.true_and]
      rw [loop_every o.1 dF (fun d => fdB ob.1 d = true) false (by have := ho.1; omega) ?_ ?_]
      · rw [all_if]
        cases o.1.all (fdB ob.1) <;> rfl
      · intro i hi
        try dsimp only
        have hi' := ho.1
        rw [ilt_len hi, cond_true, inb_len hi, cond_true]
        simp only [get_nat]
        rw [wrap_succ (by omega)]
        generalize o.1.getD i dF = d
        unfold fdB
        cases d.2.1 with
        | false => rfl
        | true =>
        rw [cond_true, Bool.not_true, Bool.false_or, ile_nat]
        rw [loop_any ob.1 dP (fun p => p.1 = d.1) (.inl ((i + 1 : Nat) : Int)) (by omega) ?_ ?_]
        · unfold hasP
          cases ob.1.any fun p => decide (p.1 = d.1) <;> rfl
        · intro j hj
          try dsimp only
          rw [ilt_len hj, cond_true, inb_len hj, cond_true, get_nat, seq_dec, cond_dec, wrap_succ (by omega), ile_nat]
          by_cases q : (ob.1.getD j dP).1 = d.1
          · rw [if_pos q, if_pos q]; rfl
          · rw [if_neg q, if_neg q]
        · try dsimp only
          rw [ilt_end]; rfl
      · try dsimp only
        rw [ilt_end]; rfl
    · intro i hi
      try dsimp only
      rw [ilt_len hi, cond_true, inb_len hi, cond_true, get_nat, ob_get o _ ho, bind_some, at_value f _ _ hf (getR_few' ho _), bind_some, wrap_succ (by omega)]
      generalize ob.1.getD i dP = p
      unfold prB
      cases (getR o.1 p.1).2 <;> cases valB f p.2 (getR o.1 p.1).1.2.2 <;> rfl
    · try dsimp only
      rw [ilt_end]; rfl
  · rw [if_neg h]
    by_cases h1 : n < 0
    · rw [if_pos h1]
    · rw [if_neg h1, if_pos (by omega)]
def varF (f : Fr) (n : ByteArray) : Val := match f.1.find? fun p => decide (p.1 = n) with
  | some p => p.2
  | none => (0, 0)
theorem at_variable (f : Fr) (n : ByteArray) (h : FewF f) : conform_variable K (f, n) = some (varF f n) := by
  unfold conform_variable
  try dsimp only
  rw [loop_find f.1 dP (fun p => p.1 = n) (fun p => p.2) (by have := h.1; omega) ?_ ?_]
  · unfold varF
    cases f.1.find? fun p => decide (p.1 = n) with
    | none => rfl
    | some p => rfl
  · intro i hi
    have := h.1
    try dsimp only
    rw [ilt_len hi, cond_true, inb_len hi, cond_true, cond_true, get_nat, seq_dec, cond_dec, wrap_succ (by omega), show P.ilt (i : Int) 0 = false by rw [ilt_dec]; simp, cond_false]
    by_cases q : (f.1.getD i dP).1 = n
    · rw [if_pos q, if_pos q]; rfl
    · rw [if_neg q, if_neg q]
  · try dsimp only
    rw [ilt_end]; rfl
theorem ref_varF (f : Fr) (n : ByteArray) (h : FewF f) : ref21_Var K (f, n) = some (varF f n) := by
  unfold ref21_Var
  try dsimp only
  rw [loop_find f.1 dP (fun p => p.1 = n) (fun p => p.2) (by have := h.1; omega) ?_ ?_]
  · unfold varF
    cases f.1.find? fun p => decide (p.1 = n) with
    | none => rfl
    | some p => rfl
  · intro i hi
    have := h.1
    try dsimp only
    rw [ilt_len hi, cond_true, inb_len hi, cond_true, cond_true, get_nat, seq_dec, cond_dec, wrap_succ (by omega)]
    by_cases q : (f.1.getD i dP).1 = n
    · rw [if_pos q, if_pos q]
    · rw [if_neg q, if_neg q]
  · try dsimp only
    rw [ilt_end]; rfl
theorem amb_same {α : Type} (x : Option α) : P.amb x x = x := by simp [P.amb]
theorem cloneA (k : Nat) (x : List At) (h : x.length ≤ 1000000) : slCloneAtom k x = some x := by
  have hr : P.room (P.add (P.len (P.nil (Int × Int))) (P.len x)) 16 = true := by
    unfold P.room
    rw [decide_eq_true_eq, len_eq, len_eq]
    unfold P.add P.nil
    simp
    omega
  unfold slCloneAtom
  try dsimp only
  rw [hr, cond_true]
  have e : P.app [] x = x := rfl
  rw [e, ilt_dec, cond_dec, len_eq]
  by_cases h0 : 0 < (x.length : Int)
  · rw [if_pos h0]; rfl
  · rw [if_neg h0]
    have : x = [] := List.eq_nil_of_length_eq_zero (by omega)
    subst this
    exact amb_same _
theorem at_var (s : Sta) (n : ByteArray) (h : FewT s) : state_Var K (s, n) = some (var s.2.1 n) := by
  unfold state_Var
  try dsimp only
  rw [loop_find s.2.1 dB (fun b => b.1 = n) (fun b => b.2) (by have := h.1; omega) ?_ ?_]
  · unfold var getV
    cases s.2.1.find? fun b => decide (b.1 = n) with
    | none => rfl
    | some b => rfl
  · intro i hi
    have := h.1
    have hm := h.2.1 _ (getD_mem hi dB)
    try dsimp only
    rw [ilt_len hi, cond_true, inb_len hi, cond_true, cond_true, get_nat, seq_dec, cond_dec, wrap_succ (by omega), ile_nat, cond_true, cloneA K _ (Nat.le_trans hm (by omega)), bind_some]
    by_cases q : (s.2.1.getD i dB).1 = n
    · rw [if_pos q, if_pos q]; rfl
    · rw [if_neg q, if_neg q]
  · try dsimp only
    rw [ilt_end]; rfl
end Go.PL.Cf
end
section
open Go Go.PG Go.PL
set_option linter.all false
namespace Go.PL.Cf
open Go.PL.Sto (Val Prp Ob dP dO Right)
def vB (f : Fr) (a : Sta) (n : ByteArray) : Bool := valB f (varF f n) (var a.2.1 n)
def lcB (f : Fr) (s : List Ob) (a : Sta) (n : Int) (x : At) : Bool := (locR a.2.2 x).2 && obB f s n (locR a.2.2 x).1
def nwB (f : Fr) (s : List Ob) (a : Sta) (i : Nat) : Bool := decide (f.2.1.getD i 0 = -1) || lcB f s a (f.2.1.getD i 0) (4, (i : Int))
def odB (f : Fr) (s : List Ob) (a : Sta) (i : Nat) : Bool := (f.2.2.getD i []).all fun n => lcB f s a n (5, (i : Int))
def StP (f : Fr) (s : List Ob) (a : Sta) : Prop := a.1 = false ∧ (f.1.all fun p => vB f a p.1) = true ∧ (a.2.1.all fun b => vB f a b.1) = true ∧ (∀ i, i < f.2.1.length → nwB f s a i = true) ∧ ∀ i, i < f.2.2.length → odB f s a i = true
instance (f : Fr) (s : List Ob) (a : Sta) : Decidable (StP f s a) := by unfold StP; exact inferInstance
theorem locR_few {a : Sta} (h : FewT a) (x : At) : FewS (locR a.2.2 x).1 := by
  unfold locR getL
  cases q : a.2.2.find? fun b => decide (b.1 = x) with
  | none => exact ⟨by simp, by simp, by simp⟩
  | some b => exact h.2.2.2 b (List.mem_of_find?_eq_some q)
theorem at_loc (f : Fr) (s : List Ob) (n : Int) (a : Sta) (x : At) (hf : FewF f) (hs : FewO s) (ha : FewT a) : conform_loc K (f, s, n, a, x) = some (lcB f s a n x) := by
  unfold conform_loc lcB
  try dsimp only
  rw [st_loc a x ha, bind_some, at_object f s n _ hf hs (locR_few ha x), bind_some]
  cases (locR a.2.2 x).2 <;> rfl
theorem st_text {f : Fr} {s : List Ob} {a : Sta} (h1 : a.1 = false) : (if (f.1.all fun p => vB f a p.1) = true then if (a.2.1.all fun b => vB f a b.1) = true then if ∀ i, i < f.2.1.length → nwB f s a i = true then if ∀ i, i < f.2.2.length → odB f s a i = true then some true else some false else some false else some false else some false) = some (decide (StP f s a)) := by
  by_cases q1 : (f.1.all fun p => vB f a p.1) = true
  · by_cases q2 : (a.2.1.all fun b => vB f a b.1) = true
    · by_cases q3 : ∀ i, i < f.2.1.length → nwB f s a i = true
      · by_cases q4 : ∀ i, i < f.2.2.length → odB f s a i = true
        · rw [if_pos q1, if_pos q2, if_pos q3, if_pos q4, decide_eq_true (show StP f s a from ⟨h1, q1, q2, q3, q4⟩)]
        · rw [if_pos q1, if_pos q2, if_pos q3, if_neg q4, decide_eq_false (fun z : StP f s a => q4 z.2.2.2.2)]
      · rw [if_pos q1, if_pos q2, if_neg q3, decide_eq_false (fun z : StP f s a => q3 z.2.2.2.1)]
    · rw [if_pos q1, if_neg q2, decide_eq_false (fun z : StP f s a => q2 z.2.2.1)]
  · rw [if_neg q1, decide_eq_false (fun z : StP f s a => q1 z.2.1)]
theorem at_state (f : Fr) (s : List Ob) (a : Sta) (hf : FewF f) (hs : FewO s) (ha : FewT a) : conform_State K (f, s, a) = some (decide (StP f s a)) := by
  unfold conform_State
  try dsimp only
  have hv := fun n => var_few ha n
  cases h1 : a.1 with
  | true => rw [cond_true, decide_eq_false (fun z : StP f s a => by have := z.1; rw [h1] at this; cases this)]
  | false =>
  rw [cond_false, ← st_text h1]
  have step : ∀ n : ByteArray, ∀ {σ : Type} (F : Bool → Option σ), (P.bind (conform_variable K (f, n)) fun r => P.bind (state_Var K (a, n)) fun r_1 => P.bind (conform_Value K (f, r, r_1)) F) = F (vB f a n) := by
    intro n σ F
    rw [at_variable f n hf, bind_some, at_var a n ha, bind_some, at_value f _ _ hf (by have := hv n; omega), bind_some]
    rfl
  rw [loop_every f.1 dP (fun p => vB f a p.1 = true) false (by have := hf.1; omega) ?_ ?_]
  · rw [all_if]
    congr 1
    rw [loop_every a.2.1 dB (fun b => vB f a b.1 = true) false (by have := ha.1; omega) ?_ ?_]
    · rw [all_if]
      congr 1
      rw [loop_all f.2.1.length (fun i => nwB f s a i = true) (r := false) (by have := hf.2.1; omega) ?_ ?_]
      · congr 1
        rw [loop_all f.2.2.length (fun i => odB f s a i = true) (r := false) (by have := hf.2.2.1; omega) ?_ ?_]
        · intro i hi
          try dsimp only
          have hl := older_few hf i
          have := hf.2.2.1
          rw [ilt_len hi, cond_true, inb_len hi, cond_true, get_nat, wrap_succ (by omega)]
          rw [loop_every (f.2.2.getD i []) 0 (fun n => lcB f s a n (5, (i : Int)) = true) (.inr (.inr false)) (by omega) ?_ ?_]
          · rw [all_if]
            unfold odB
            cases (f.2.2.getD i []).all fun n => lcB f s a n (5, (i : Int)) <;> rfl
          · intro j hj
            try dsimp only
            rw [ilt_len hj, cond_true, inb_len hj, cond_true, get_nat, at_loc f s _ a _ hf hs ha, bind_some, wrap_succ (by omega)]
            cases lcB f s a ((f.2.2.getD i []).getD j 0) (5, (i : Int)) <;> rfl
          · try dsimp only
            rw [ilt_end]; rfl
        · try dsimp only
          rw [ilt_end]; rfl
      · intro i hi
        try dsimp only
        have := hf.2.1
        rw [ilt_len hi, cond_true, inb_len hi, cond_true, get_nat, at_loc f s _ a _ hf hs ha, bind_some, wrap_succ (by omega), ieq_eq, cond_ndec]
        unfold nwB
        by_cases q : f.2.1.getD i 0 = -1
        · rw [if_pos q, decide_eq_true q]; rfl
        · rw [if_neg q, decide_eq_false q]
          cases lcB f s a (f.2.1.getD i 0) (4, (i : Int)) <;> rfl
      · try dsimp only
        rw [ilt_end]; rfl
    · intro i hi
      try dsimp only
      have := ha.1
      rw [ilt_len hi, cond_true, inb_len hi, cond_true, get_nat, step, wrap_succ (by omega)]
      cases vB f a (a.2.1.getD i dB).1 <;> rfl
    · try dsimp only
      rw [ilt_end]; rfl
  · intro i hi
    try dsimp only
    have := hf.1
    rw [ilt_len hi, cond_true, inb_len hi, cond_true, get_nat, step, wrap_succ (by omega)]
    cases vB f a (f.1.getD i dP).1 <;> rfl
  · try dsimp only
    rw [ilt_end]; rfl
end Go.PL.Cf
end
section
open Go Go.PG Go.PL
set_option linter.all false
namespace Go.PL.Cf
open Go.PL.Sto (Val Prp Ob dP dO Right)
def clI (x : List Int) : Option (List Int) := P.cond (P.room (P.add (P.len (P.nil Int)) (P.len x)) 8) (some x) none
theorem cloneI_eq (k : Nat) : slices_Clone_int_int k = clI := by
  funext x
  unfold slices_Clone_int_int clI
  try dsimp only
  have e : P.app [] x = x := rfl
  rw [e, ilt_dec, cond_dec, len_eq]
  by_cases h0 : 0 < (x.length : Int)
  · rw [if_pos h0]; rfl
  · rw [if_neg h0]
    have : x = [] := List.eq_nil_of_length_eq_zero (by omega)
    subst this
    exact amb_same _
set_option maxRecDepth 100000 in
theorem fixed21 : law21_fixed K () = some true := by
  unfold law21_fixed conform_Fresh
  rw [cloneI_eq]
  kernel_rfl
end Go.PL.Cf
end
section
open Go Go.PG Go.PL
set_option linter.all false
namespace Go.PL.Cf
open Go.PL.Sto (Val Prp Ob dP dO Right)
theorem val_mono {f : Fr} {v : Val} {a b : List At} (h : Within a b) (q : valB f v a = true) : valB f v b = true := by
  unfold valB at *
  rw [List.any_eq_true] at q ⊢
  obtain ⟨x, hx, hq⟩ := q
  exact ⟨x, h x hx, hq⟩
def ObP (f : Fr) (s : List Ob) (n : Int) (o : Sp) : Prop := 0 ≤ n ∧ n < s.length ∧ valB f (s.getD n.toNat dO).2 o.2 = true ∧
  (∀ p, p ∈ (s.getD n.toNat dO).1 → pr o.1 p.1 = true ∧ valB f p.2 (va o.1 p.1) = true) ∧ ∀ m, su o.1 m = true → hasP (s.getD n.toNat dO).1 m = true
theorem ob_iff {f : Fr} {s : List Ob} {n : Int} {o : Sp} (h : RisesF o.1) : obB f s n o = true ↔ ObP f s n o := by
  unfold obB ObP
  by_cases hn : 0 ≤ n ∧ n < s.length
  · rw [if_pos hn, Bool.and_eq_true, Bool.and_eq_true, List.all_eq_true, List.all_eq_true]
    constructor
    · rintro ⟨h1, h2, h3⟩
      refine ⟨hn.1, hn.2, h1, fun p hp => ?_, fun m hm => ?_⟩
      · have := h2 p hp
        unfold prB at this
        rw [Bool.and_eq_true] at this
        exact this
      · have g := get_view o.1 m
        rw [if_pos (su_pr hm)] at g
        have := h3 _ (get_mem g)
        unfold fdB at this
        simp only at this
        rw [hm, Bool.not_true, Bool.false_or] at this
        exact this
    · rintro ⟨_, _, h1, h2, h3⟩
      refine ⟨h1, fun p hp => ?_, fun d hd => ?_⟩
      · unfold prB
        rw [Bool.and_eq_true]
        exact h2 p hp
      · unfold fdB
        cases q : d.2.1 with
        | false => rfl
        | true =>
          rw [Bool.not_true, Bool.false_or]
          apply h3
          unfold su getR
          rw [get_of_mem h hd]
          exact q
  · rw [if_neg hn]
    constructor
    · intro q; cases q
    · intro q; exact absurd ⟨q.1, q.2.1⟩ hn
def LcP (f : Fr) (s : List Ob) (a : Sta) (n : Int) (x : At) : Prop := ∃ o, gl a.2.2 x = some o ∧ ObP f s n o
theorem lc_iff {f : Fr} {s : List Ob} {a : Sta} {n : Int} {x : At} (h : MayS a) : lcB f s a n x = true ↔ LcP f s a n x := by
  unfold lcB LcP
  rw [gl_locR]
  cases g : gl a.2.2 x with
  | none => simp
  | some o =>
    have mo := gl_ok h.2.1.2 g
    simp only [Bool.true_and]
    rw [ob_iff mo.1]
    constructor
    · intro q; exact ⟨o, rfl, q⟩
    · rintro ⟨o', q1, q2⟩
      injection q1 with q1
      subst q1
      exact q2
def StV (f : Fr) (s : List Ob) (a : Sta) : Prop := a.1 = false ∧ (∀ n, vB f a n = true) ∧ (∀ i, i < f.2.1.length → f.2.1.getD i 0 ≠ -1 → LcP f s a (f.2.1.getD i 0) (4, (i : Int))) ∧
  ∀ i, i < f.2.2.length → ∀ n, n ∈ f.2.2.getD i [] → LcP f s a n (5, (i : Int))
theorem st_iff {f : Fr} {s : List Ob} {a : Sta} (h : MayS a) : StP f s a ↔ StV f s a := by
  unfold StP StV
  constructor
  · rintro ⟨h1, h2, h3, h4, h5⟩
    refine ⟨h1, fun n => ?_, fun i hi hn => ?_, fun i hi n hn => ?_⟩
    · by_cases q1 : ∃ p, p ∈ f.1 ∧ p.1 = n
      · obtain ⟨p, hp, rfl⟩ := q1
        exact List.all_eq_true.1 h2 p hp
      · by_cases q2 : ∃ b, b ∈ a.2.1 ∧ b.1 = n
        · obtain ⟨b, hb, rfl⟩ := q2
          exact List.all_eq_true.1 h3 b hb
        · have e1 : varF f n = (0, 0) := by
            unfold varF
            cases g : f.1.find? fun p => decide (p.1 = n) with
            | none => rfl
            | some p => exact absurd ⟨p, List.mem_of_find?_eq_some g, by simpa using List.find?_some g⟩ q1
          have e2 : var a.2.1 n = [(0, 0)] := by
            unfold var getV
            cases g : a.2.1.find? fun b => decide (b.1 = n) with
            | none => rfl
            | some p => exact absurd ⟨p, List.mem_of_find?_eq_some g, by simpa using List.find?_some g⟩ q2
          unfold vB
          rw [e1, e2]
          rfl
    · have := h4 i hi
      unfold nwB at this
      rw [decide_eq_false hn, Bool.false_or] at this
      exact (lc_iff h).1 this
    · have := h5 i hi
      unfold odB at this
      exact (lc_iff h).1 (List.all_eq_true.1 this n hn)
  · rintro ⟨h1, h2, h3, h4⟩
    refine ⟨h1, List.all_eq_true.2 fun p _ => h2 p.1, List.all_eq_true.2 fun b _ => h2 b.1, fun i hi => ?_, fun i hi => ?_⟩
    · unfold nwB
      by_cases q : f.2.1.getD i 0 = -1
      · rw [decide_eq_true q]; rfl
      · rw [decide_eq_false q, Bool.false_or]
        exact (lc_iff h).2 (h3 i hi q)
    · unfold odB
      rw [List.all_eq_true]
      exact fun n hn => (lc_iff h).2 (h4 i hi n hn)
theorem loop_allG {ρ σ : Type} (n : Nat) (p : Nat → Prop) [DecidablePred p] {f : Int → Option (Int ⊕ (Unit ⊕ ρ))} {A : Option σ} {B : ρ → Option σ} {r : ρ} (hn : n ≤ 9223372036854775807)
    (hs : ∀ i : Nat, i < n → f (i : Int) = some (if p i then .inl ((i + 1 : Nat) : Int) else .inr (.inr r))) (he : f (n : Int) = some (.inr (.inl ()))) :
    P.bind (P.iter K f 0) (P.either (fun (_ : Unit) => A) B) = if ∀ i, i < n → p i then A else B r := by
  rw [iter_all (n := n) (e := .inl ()) (r := .inr r) p K hs he (by unfold K; omega), bind_some]
  by_cases q : ∀ i, i < n → p i
  · rw [if_pos q, if_pos q]; rfl
  · rw [if_neg q, if_neg q]; rfl
theorem loop_everyG {α ρ σ : Type} (l : List α) (d : α) (q : α → Prop) [DecidablePred q] (r : ρ) {f : Int → Option (Int ⊕ (Unit ⊕ ρ))} {A : Option σ} {B : ρ → Option σ} (hn : l.length ≤ 9223372036854775807)
    (hs : ∀ i : Nat, i < l.length → f (i : Int) = some (if q (l.getD i d) then .inl ((i + 1 : Nat) : Int) else .inr (.inr r))) (he : f (l.length : Int) = some (.inr (.inl ()))) :
    P.bind (P.iter K f 0) (P.either (fun (_ : Unit) => A) B) = if (l.all fun x => decide (q x)) = true then A else B r := by
  rw [loop_allG l.length (fun i => q (l.getD i d)) hn hs he]
  by_cases h : (l.all fun x => decide (q x)) = true
  · rw [if_pos h, if_pos]
    intro i hi
    simpa using List.all_eq_true.1 h _ (getD_mem hi d)
  · rw [if_neg h, if_neg]
    intro q'
    apply h
    rw [List.all_eq_true]
    intro x hx
    simpa using (forall_getD d).1 q' x hx
def SmallF (f : Fr) : Prop := (f.2.2.all fun l => decide (l.length ≤ 30)) = true ∧ f.1.length ≤ 40 ∧ f.2.1.length ≤ 40 ∧ f.2.2.length ≤ 40
instance (f : Fr) : Decidable (SmallF f) := by unfold SmallF; exact inferInstance
theorem smallF_few {f : Fr} (h : SmallF f) : FewF f := ⟨by have := h.2.1; omega, by have := h.2.2.1; omega, by have := h.2.2.2; omega, fun l hl => by
  have := List.all_eq_true.1 h.1 l hl
  simp only [decide_eq_true_eq] at this
  omega⟩
theorem ref_smallF (f : Fr) (hf : f.2.2.length ≤ 9223372036854775807) : ref21_Small K f = some (decide (SmallF f)) := by
  unfold ref21_Small
  try dsimp only
  rw [loop_everyG f.2.2 [] (fun l => l.length ≤ 30) false (by omega) ?_ ?_]
  · simp only [ile_dec, cond_dec, len_eq]
    by_cases q1 : (f.2.2.all fun l => decide (l.length ≤ 30)) = true
    · rw [if_pos q1]
      by_cases q2 : f.1.length ≤ 40
      · rw [if_pos (by omega)]
        by_cases q3 : f.2.1.length ≤ 40
        · rw [if_pos (by omega)]
          congr 1
          rw [Bool.eq_iff_iff, decide_eq_true_eq, decide_eq_true_eq]
          constructor
          · intro q; exact ⟨q1, q2, q3, by omega⟩
          · intro q; have := q.2.2.2; omega
        · rw [if_neg (by omega)]
          congr 1
          symm
          rw [decide_eq_false_iff_not]
          exact fun q => q3 q.2.2.1
      · rw [if_neg (by omega)]
        congr 1
        symm
        rw [decide_eq_false_iff_not]
        exact fun q => q2 q.2.1
    · rw [if_neg q1]
      congr 1
      symm
      rw [decide_eq_false_iff_not]
      exact fun q => q1 q.1
  · intro i hi
    try dsimp only
    rw [ilt_len hi, cond_true, inb_len hi, cond_true, get_nat, wrap_succ (by omega), ilt_dec, cond_dec, len_eq]
    by_cases q : (f.2.2.getD i []).length ≤ 30
    · rw [if_neg (by omega), if_pos q]
    · rw [if_pos (by omega), if_neg q]
  · try dsimp only
    rw [ilt_end]; rfl
def SmallO (s : List Ob) : Prop := (∀ i, i < s.length → (s.getD i dO).1.length ≤ 60) ∧ s.length ≤ 100
instance (s : List Ob) : Decidable (SmallO s) := by unfold SmallO; exact inferInstance
theorem smallO_few {s : List Ob} (h : SmallO s) : FewO s := ⟨by have := h.2; omega, fun o ho => by have := (forall_getD dO (p := fun o : Ob => o.1.length ≤ 60)).1 h.1 o ho; omega⟩
theorem fits_few {s : List Ob} (h : FewO s) : Sto.Fits s := ⟨by have := h.1; omega, fun i hi => by have := few_at h i; omega⟩
theorem ref_smallO (s : List Ob) (hs : s.length ≤ 9223372036854775807) : ref19_Small K s = some (decide (SmallO s)) := by
  unfold ref19_Small
  try dsimp only
  rw [loop_allG s.length (fun i => (s.getD i dO).1.length ≤ 60) (r := false) (by omega) ?_ ?_]
  · rw [ile_dec, len_eq]
    by_cases q : ∀ i, i < s.length → (s.getD i dO).1.length ≤ 60
    · rw [if_pos q]
      congr 1
      rw [Bool.eq_iff_iff, decide_eq_true_eq, decide_eq_true_eq]
      exact ⟨fun z => ⟨q, by omega⟩, fun z => by have := z.2; omega⟩
    · rw [if_neg q]
      congr 1
      symm
      rw [decide_eq_false_iff_not]
      exact fun z => q z.1
  · intro i hi
    try dsimp only
    rw [ilt_len hi, cond_true, inb_len hi, cond_true, get_nat, wrap_succ (by omega), ilt_dec, cond_dec, len_eq]
    by_cases q : (s.getD i dO).1.length ≤ 60
    · have q' : (List.getD s i ([], 0, 0)).1.length ≤ 60 := q
      rw [if_neg (by omega), if_pos q]
    · have q' : ¬ (List.getD s i ([], 0, 0)).1.length ≤ 60 := q
      rw [if_pos (by omega), if_neg q]
  · try dsimp only
    rw [ilt_end]; rfl
abbrev Al := Fr × List Ob × Sta
theorem law_small (x : Al) (h1 : x.1.2.2.length ≤ 9223372036854775807) (h2 : x.2.1.length ≤ 9223372036854775807) : law21_small K x = some (decide (SmallF x.1 ∧ SmallO x.2.1 ∧ SmallT x.2.2)) := by
  obtain ⟨f, s, a⟩ := x
  unfold law21_small
  try dsimp only at h1 h2 ⊢
  rw [ref_smallF f h1, bind_some, cond_dec, ref_smallO s h2, bind_some, cond_dec, ref_small8, bind_some]
  by_cases q1 : SmallF f
  · rw [if_pos q1]
    by_cases q2 : SmallO s
    · rw [if_pos q2]
      congr 1
      rw [Bool.eq_iff_iff, decide_eq_true_eq, decide_eq_true_eq]
      exact ⟨fun q => ⟨q1, q2, q⟩, fun q => q.2.2⟩
    · rw [if_neg q2, decide_eq_false fun q => q2 q.2.1]
  · rw [if_neg q1, decide_eq_false fun q => q1 q.1]
theorem g21 {p : Prop} [Decidable p] {X : Option Bool} (h : p → X = some true) : P.cond (P.not (decide p)) (P.bind (law21_fixed K ()) fun r => some r) X = some true := by
  rw [cond_ndec, fixed21, bind_some]
  by_cases q : p
  · rw [if_pos q]; exact h q
  · rw [if_neg q]
theorem g0 {X : Option Bool} (h : X = some true) : (P.bind (law21_fixed K ()) fun r => P.cond (P.not r) (P.bind (law21_fixed K ()) fun r => some r) X) = some true := by
  rw [fixed21, bind_some]
  exact h
end Go.PL.Cf
end
section
open Go Go.PG Go.PL
set_option linter.all false
namespace Go.PL.Cf
open Go.PL.Sto (Val Prp Ob dP dO Right)
theorem loop_stp {τ ρ σ : Type} (n : Nat) (s : Nat → τ) (p : Nat → Prop) [DecidablePred p] (r : ρ) {f : Int × τ → Option ((Int × τ) ⊕ (τ ⊕ ρ))} {A : τ → Option σ} {B : ρ → Option σ} (hn : n ≤ 1000000000000)
    (hs : ∀ i : Nat, i < n → (∀ j, j < i → p j) → f ((i : Int), s i) = some (if p i then .inl (((i + 1 : Nat) : Int), s (i + 1)) else .inr (.inr r))) (he : (∀ j, j < n → p j) → f ((n : Int), s n) = some (.inr (.inl (s n)))) :
    P.bind (P.iter K f (0, s 0)) (P.either A B) = if ∀ i, i < n → p i then A (s n) else B r := by
  by_cases q : ∀ i, i < n → p i
  · rw [if_pos q]
    have := iter_run (f := f) (fun i => ((i : Int), s i)) (.inl (s n)) n 0 K (by unfold K; omega) (fun j hj => by
      simp only [Nat.zero_add]
      rw [hs j hj fun k hk => q k (by omega), if_pos (q j hj)]) (by simpa using he q)
    rw [show ((0 : Nat) : Int) = 0 from rfl] at this
    rw [this, bind_some, either_inl]
  · rw [if_neg q]
    have hex : ∃ i, i < n ∧ ¬ p i := by
      apply Classical.byContradiction
      intro z
      exact q fun i hi => Classical.byContradiction fun y => z ⟨i, hi, y⟩
    -- the first one
    have first : ∀ m, (∃ i, i < m ∧ ¬ p i) → ∃ j, j < m ∧ ¬ p j ∧ ∀ i, i < j → p i := by
      intro m
      induction m with
      | zero => rintro ⟨i, hi, _⟩; omega
      | succ m ih =>
        rintro ⟨i, hi, hp⟩
        by_cases z : ∃ i, i < m ∧ ¬ p i
        · obtain ⟨j, h1, h2, h3⟩ := ih z
          exact ⟨j, by omega, h2, h3⟩
        · have : i = m := by
            apply Classical.byContradiction
            intro y
            exact z ⟨i, by omega, hp⟩
          subst this
          exact ⟨i, hi, hp, fun j hj => Classical.byContradiction fun y => z ⟨j, hj, y⟩⟩
    obtain ⟨j, h1, h2, h3⟩ := first n hex
    have := iter_run (f := f) (fun i => ((i : Int), s i)) (.inr r) j 0 K (by unfold K; omega) (fun k hk => by
      simp only [Nat.zero_add]
      rw [hs k (by omega) fun i hi => h3 i (by omega), if_pos (h3 k hk)]) (by
      simp only [Nat.zero_add]
      rw [hs j h1 h3, if_neg h2])
    rw [show ((0 : Nat) : Int) = 0 from rfl] at this
    rw [this, bind_some]
    rfl
theorem flat_take (X : List (List Int)) {i : Nat} (h : i < X.length) : (X.take (i + 1)).flatten = (X.take i).flatten ++ X.getD i [] := by
  rw [take_getD' h [], List.flatten_append]
  simp
theorem flat_le (X : List (List Int)) {m : Nat} (h : ∀ l, l ∈ X → l.length ≤ m) : X.flatten.length ≤ X.length * m := by
  induction X with
  | nil => simp
  | cons l X ih =>
    have h1 := h l (by simp)
    have h2 := ih fun a ha => h a (List.mem_cons_of_mem _ ha)
    simp only [List.flatten_cons, List.length_append, List.length_cons, Nat.add_mul, Nat.one_mul]
    omega
theorem flat_take_le (X : List (List Int)) (i : Nat) {m : Nat} (h : ∀ l, l ∈ X → l.length ≤ m) : (X.take i).flatten.length ≤ X.length * m := by
  have h1 := flat_le (X.take i) (m := m) fun l hl => h l (List.mem_of_mem_take hl)
  have : (X.take i).length ≤ X.length := by simp; omega
  exact Nat.le_trans h1 (Nat.mul_le_mul_right m this)
theorem wrap_is {x : Int} (h0 : -9223372036854775808 ≤ x) (h1 : x < 9223372036854775808) : P.wrap IntKind.i64 x = x := by
  unfold P.wrap IntKind.wrap
  simp only [IntKind.bits, IntKind.signed]
  simp
  omega
theorem getD_le {X : List (List Int)} {m : Nat} (h : ∀ l, l ∈ X → l.length ≤ m) (i : Nat) : (X.getD i []).length ≤ m := by
  by_cases hi : i < X.length
  · exact h _ (getD_mem hi [])
  · rw [List.getD_eq_getElem?_getD, List.getElem?_eq_none (by omega)]; simp
theorem concat_fill {ρ σ : Type} (X : List (List Int)) (hX : X.length ≤ 200000) (hl : ∀ l, l ∈ X → l.length ≤ 100000) {f : List Int × Int → Option ((List Int × Int) ⊕ (List Int ⊕ ρ))} {A : List Int → Option σ} {B : ρ → Option σ}
    (hf : f = fun (y : List Int × Int) => P.cond (P.ilt y.snd (P.len X)) (P.cond (P.inb y.snd (P.len X)) (P.cond (P.room (P.add (P.len y.fst) (P.len (P.get X y.snd []))) 8) (some (Sum.inl (P.app y.fst (P.get X y.snd []), P.wrap IntKind.i64 (P.add y.snd ((1 : Int)))))) none) none) (some (Sum.inr (Sum.inl y.fst)))) :
    P.bind (P.iter K f ([], (0 : Int))) (P.either A B) = A X.flatten := by
  have hx := fun i => flat_take_le X i hl
  have := iter_run (f := f) (fun i => ((X.take i).flatten, (i : Int))) (.inl X.flatten) X.length 0 K (by unfold K; omega) (fun j hj => by
    simp only [Nat.zero_add]
    rw [hf]
    simp only
    have h1 := getD_le hl j
    have h2 := hx j
    have h3 : X.length * 100000 ≤ 20000000000 := by omega
    rw [ilt_len hj, cond_true, inb_len hj, cond_true, get_nat, wrap_succ (by omega), flat_take X hj, show P.room (P.add (P.len (X.take j).flatten) (P.len (X.getD j []))) 8 = true by
      unfold P.room P.add
      rw [decide_eq_true_eq, len_eq, len_eq]
      omega, cond_true]
    rfl) (by
    simp only [Nat.zero_add]
    rw [hf]
    simp only
    rw [ilt_end, List.take_length]
    rfl)
  rw [show ((0 : Nat) : Int) = 0 from rfl] at this
  simp only [List.take_zero, List.flatten_nil] at this
  rw [this, bind_some]
  rfl
theorem concat_goal {ρ : Type} (X : List (List Int)) (hX : X.length ≤ 200000) (hl : ∀ l, l ∈ X → l.length ≤ 100000) (F : List Int → Option ρ) : (P.bind (P.iter K (fun (y : Int × Int) => P.cond (P.ilt y.snd (P.len X)) (P.cond (P.inb y.snd (P.len X)) (P.cond (P.ilt (P.wrap IntKind.i64 (P.add y.fst (P.len (P.get X y.snd [])))) ((0 : Int))) none (some (Sum.inl (P.wrap IntKind.i64 (P.add y.fst (P.len (P.get X y.snd []))), P.wrap IntKind.i64 (P.add y.snd ((1 : Int))))))) none) (some (Sum.inr (Sum.inl y.fst)))) ((0 : Int), (0 : Int))) (P.either (fun (z : Int) => P.cond (P.ilt z ((0 : Int))) none (P.cond (P.ilt ((0 : Int)) (P.wrap IntKind.i64 (P.sub z (P.wrap IntKind.i64 (P.sub ((0 : Int)) ((0 : Int))))))) (P.cond (P.cut ((0 : Int)) ((0 : Int)) ((0 : Int))) (P.cond (P.ilt ((0 : Int)) (P.wrap IntKind.i64 (P.sub z (P.wrap IntKind.i64 (P.sub ((0 : Int)) ((0 : Int))))))) (P.cond (P.room (P.wrap IntKind.i64 (P.sub z (P.wrap IntKind.i64 (P.sub ((0 : Int)) ((0 : Int)))))) 8) (P.cond (P.cut ((0 : Int)) ((0 : Int)) (P.len (P.rep (P.wrap IntKind.i64 (P.sub z (P.wrap IntKind.i64 (P.sub ((0 : Int)) ((0 : Int)))))) ((0 : Int))))) (P.bind (P.iter K (fun (y : List Int × Int) => P.cond (P.ilt y.snd (P.len X)) (P.cond (P.inb y.snd (P.len X)) (P.cond (P.room (P.add (P.len y.fst) (P.len (P.get X y.snd []))) 8) (some (Sum.inl (P.app y.fst (P.get X y.snd []), P.wrap IntKind.i64 (P.add y.snd ((1 : Int)))))) none) none) (some (Sum.inr (Sum.inl y.fst)))) (P.sub_ (P.rep (P.wrap IntKind.i64 (P.sub z (P.wrap IntKind.i64 (P.sub ((0 : Int)) ((0 : Int)))))) ((0 : Int))) ((0 : Int)) ((0 : Int)), (0 : Int))) (P.either (fun (z : List Int) => F z) fun (r : ρ) => some r)) none) none) none) none) (P.bind (P.iter K (fun (y : List Int × Int) => P.cond (P.ilt y.snd (P.len X)) (P.cond (P.inb y.snd (P.len X)) (P.cond (P.room (P.add (P.len y.fst) (P.len (P.get X y.snd []))) 8) (some (Sum.inl (P.app y.fst (P.get X y.snd []), P.wrap IntKind.i64 (P.add y.snd ((1 : Int)))))) none) none) (some (Sum.inr (Sum.inl y.fst)))) ([], (0 : Int))) (P.either (fun (z : List Int) => F z) fun (r : ρ) => some r)))) fun (r : ρ) => some r)) = F X.flatten := by
  have hx := fun i => flat_take_le X i hl
  have h3 : X.length * 100000 ≤ 20000000000 := by omega
  have run := iter_run (f := fun (y : Int × Int) => P.cond (P.ilt y.snd (P.len X)) (P.cond (P.inb y.snd (P.len X)) (P.cond (P.ilt (P.wrap IntKind.i64 (P.add y.fst (P.len (P.get X y.snd [])))) ((0 : Int))) none (some (Sum.inl (P.wrap IntKind.i64 (P.add y.fst (P.len (P.get X y.snd []))), P.wrap IntKind.i64 (P.add y.snd ((1 : Int))))))) none) (some (Sum.inr (Sum.inl y.fst : Int ⊕ ρ))))
    (fun i => ((((X.take i).flatten.length : Nat) : Int), (i : Int))) (.inl ((X.flatten.length : Nat) : Int)) X.length 0 K (by unfold K; omega) (fun j hj => by
    simp only [Nat.zero_add]
    have h1 := getD_le hl j
    have h2 := hx j
    rw [ilt_len hj, cond_true, inb_len hj, cond_true, get_nat, wrap_succ (by omega), flat_take X hj]
    have e : P.wrap IntKind.i64 (P.add (((X.take j).flatten.length : Nat) : Int) (P.len (X.getD j []))) = (((X.take j).flatten ++ X.getD j []).length : Nat) := by
      rw [len_eq]
      unfold P.add
      rw [wrap_is (by omega) (by omega), List.length_append]
      omega
    rw [e, ilt_dec, cond_dec, if_neg (by omega)]) (by
    simp only [Nat.zero_add]
    rw [ilt_end, List.take_length]
    rfl)
  rw [show ((0 : Nat) : Int) = 0 from rfl] at run
  simp only [List.take_zero, List.flatten_nil, List.length_nil] at run
  rw [show ((0 : Nat) : Int) = 0 from rfl] at run
  rw [run, bind_some]
  show P.cond _ _ _ = _
  have hL := hx X.length
  rw [List.take_length] at hL
  have e0 : P.wrap IntKind.i64 (P.sub ((0 : Int)) ((0 : Int))) = 0 := by decide
  have e1 : P.wrap IntKind.i64 (P.sub ((X.flatten.length : Nat) : Int) 0) = ((X.flatten.length : Nat) : Int) := by
    unfold P.sub
    rw [wrap_is (by omega) (by omega)]
    omega
  have a1 : P.ilt ((X.flatten.length : Nat) : Int) 0 = false := by rw [ilt_dec]; exact decide_eq_false (by omega)
  rw [e0, e1]
  by_cases h0 : (0 : Int) < ((X.flatten.length : Nat) : Int)
  · have a2 : P.ilt 0 ((X.flatten.length : Nat) : Int) = true := by rw [ilt_dec]; exact decide_eq_true h0
    rw [a2, cond_true, show P.cut ((0 : Int)) ((0 : Int)) ((0 : Int)) = true by decide, cond_true, cond_true, show P.room ((X.flatten.length : Nat) : Int) 8 = true by
      unfold P.room
      rw [decide_eq_true_eq]
      omega, cond_true, show P.cut ((0 : Int)) ((0 : Int)) (P.len (P.rep ((X.flatten.length : Nat) : Int) ((0 : Int)))) = true by
      unfold P.cut
      rw [len_eq]
      simp, cond_true, show P.sub_ (P.rep ((X.flatten.length : Nat) : Int) ((0 : Int))) 0 0 = [] by simp [P.sub_]]
    exact concat_fill X hX hl rfl
  · have a2 : P.ilt 0 ((X.flatten.length : Nat) : Int) = false := by rw [ilt_dec]; exact decide_eq_false h0
    rw [a2, cond_false]
    exact concat_fill X hX hl rfl
end Go.PL.Cf
end
section
open Go Go.PG Go.PL
set_option linter.all false
namespace Go.PL.Cf
open Go.PL.Sto (Val Prp Ob dP dO Right)
abbrev eqI : Int → Int → Bool := fun x y => P.ieq x y
def mk (out : List Int) : List (Int × Bool) := out.map fun x => (x, true)
theorem mval_mk (x : Int) : ∀ out : List Int, P.mval eqI (mk out) x false = decide (x ∈ out) := by
  intro out
  induction out with
  | nil => rfl
  | cons a l ih =>
    have e : P.mval eqI (mk (a :: l)) x false = match eqI x a with
      | true => true
      | false => P.mval eqI (mk l) x false := rfl
    rw [e, ih]
    have h : eqI x a = decide (x = a) := ieq_eq x a
    rw [h]
    by_cases q : x = a
    · subst q; simp
    · rw [decide_eq_false q]; simp [q]
theorem mput_mk (x : Int) : ∀ out : List Int, x ∉ out → P.mput eqI (mk out) x true = mk (out ++ [x]) := by
  intro out
  induction out with
  | nil => intro _; rfl
  | cons a l ih =>
    intro h
    have e : P.mput eqI (mk (a :: l)) x true = match eqI x a with
      | true => (x, true) :: mk l
      | false => (a, true) :: P.mput eqI (mk l) x true := rfl
    rw [e, ih (fun z => h (List.mem_cons_of_mem _ z))]
    have h2 : eqI x a = decide (x = a) := ieq_eq x a
    rw [h2, decide_eq_false (fun z => h (by rw [z]; simp))]
    rfl
abbrev nz (x : Int) : Bool := decide (x ≠ -1)
def PZ (z : List Int) (N : Nat) (i : Nat) : Prop := z.getD i 0 = -1 ∨ (0 ≤ z.getD i 0 ∧ z.getD i 0 < N ∧ z.getD i 0 ∉ z.take i)
instance (z : List Int) (N i : Nat) : Decidable (PZ z N i) := by unfold PZ; exact inferInstance
def Apart (z : List Int) (N : Nat) : Prop := (∀ x, x ∈ z → 0 ≤ x ∧ x < N) ∧ z.Nodup
instance (z : List Int) (N : Nat) : Decidable (Apart z N) := by unfold Apart; exact inferInstance
theorem pz_iff (z : List Int) (N : Nat) : (∀ i, i < z.length → PZ z N i) ↔ Apart (z.filter nz) N := by
  have gd : ∀ {i}, (h : i < z.length) → z.getD i 0 = z[i] := fun h => by simp [List.getD_eq_getElem?_getD, h]
  constructor
  · intro h
    refine ⟨fun x hx => ?_, ?_⟩
    · rw [List.mem_filter] at hx
      obtain ⟨i, hi, rfl⟩ := List.getElem_of_mem hx.1
      have := h i hi
      unfold PZ at this
      rw [gd hi] at this
      rcases this with q | q
      · simp [nz, q] at hx
      · exact ⟨q.1, q.2.1⟩
    · show List.Pairwise _ _
      rw [List.pairwise_filter, List.pairwise_iff_getElem]
      intro i j hi hj hij p1 p2 e
      have := h j hj
      unfold PZ at this
      rw [gd hj] at this
      rcases this with q | q
      · simp [nz, q] at p2
      · refine q.2.2 ?_
        rw [← e]
        rw [List.mem_take_iff_getElem]
        exact ⟨i, by omega, rfl⟩
  · rintro ⟨h1, h2⟩ i hi
    have h2 : List.Pairwise _ _ := h2
    rw [List.pairwise_filter, List.pairwise_iff_getElem] at h2
    unfold PZ
    rw [gd hi]
    by_cases q : z[i] = -1
    · exact .inl q
    · right
      have hm : z[i] ∈ z.filter nz := by
        rw [List.mem_filter]
        exact ⟨List.getElem_mem hi, by simp [nz, q]⟩
      refine ⟨(h1 _ hm).1, (h1 _ hm).2, fun hc => ?_⟩
      rw [List.mem_take_iff_getElem] at hc
      obtain ⟨j, hj, e⟩ := hc
      exact h2 j i (by omega) hi (by omega) (by simp [nz, e, q]) (by simp [nz, q]) e
theorem seen_loop {σ : Type} (z : List Int) (N : Nat) (hz : z.length ≤ 1000000) {f : Int × List (Int × Bool) → Option ((Int × List (Int × Bool)) ⊕ (List (Int × Bool) ⊕ Bool))} {A : List (Int × Bool) → Option σ} {B : Bool → Option σ}
    (hf : f = fun (y : Int × List (Int × Bool)) => P.cond (P.ilt y.fst (P.len z)) (P.cond (P.inb y.fst (P.len z)) (P.cond (P.ieq (P.get z y.fst 0) (-1)) (some (Sum.inl (P.wrap IntKind.i64 (P.add y.fst 1), y.snd))) (P.cond (P.ilt (P.get z y.fst 0) 0) (some (Sum.inr (Sum.inr false))) (P.cond (P.ile (N : Int) (P.get z y.fst 0)) (some (Sum.inr (Sum.inr false))) (P.cond (P.mval eqI y.snd (P.get z y.fst 0) false) (some (Sum.inr (Sum.inr false))) (some (Sum.inl (P.wrap IntKind.i64 (P.add y.fst 1), P.mput eqI y.snd (P.get z y.fst 0) true))))))) none) (some (Sum.inr (Sum.inl y.snd)))) :
    P.bind (P.iter K f (0, [])) (P.either A B) = if Apart (z.filter nz) N then A (mk (z.filter nz)) else B false := by
  have key := loop_stp (f := f) (A := A) (B := B) z.length (fun i => mk ((z.take i).filter nz)) (PZ z N) false (by omega) (fun i hi hp => by
    rw [hf]
    simp only
    rw [ilt_len hi, cond_true, inb_len hi, cond_true]
    simp only [get_nat]
    rw [wrap_succ (by omega), ieq_eq, cond_dec, ilt_dec, cond_dec, ile_dec, cond_dec, mval_mk, cond_dec]
    have ht : z.take (i + 1) = z.take i ++ [z.getD i 0] := take_getD' hi 0
    rw [ht, List.filter_append]
    have hPZ : PZ z N i ↔ (z.getD i 0 = -1 ∨ (0 ≤ z.getD i 0 ∧ z.getD i 0 < N ∧ z.getD i 0 ∉ z.take i)) := Iff.rfl
    generalize z.getD i 0 = x at hPZ ⊢
    by_cases h1 : x = -1
    · rw [if_pos h1, if_pos (hPZ.2 (.inl h1))]
      simp [nz, h1]
    · rw [if_neg h1]
      by_cases h2 : x < 0
      · rw [if_pos h2, if_neg (fun y => by rcases hPZ.1 y with q | q; exact h1 q; omega)]
      · rw [if_neg h2]
        by_cases h3 : (N : Int) ≤ x
        · rw [if_pos h3, if_neg (fun y => by rcases hPZ.1 y with q | q; exact h1 q; omega)]
        · rw [if_neg h3]
          by_cases h4 : x ∈ (z.take i).filter nz
          · rw [if_pos h4, if_neg (fun y => by rcases hPZ.1 y with q | q; exact h1 q; exact q.2.2 ((List.mem_filter.1 h4).1))]
          · have h5 : x ∉ z.take i := fun q => h4 (by rw [List.mem_filter]; exact ⟨q, by simp [nz, h1]⟩)
            rw [if_neg h4, if_pos (hPZ.2 (.inr ⟨by omega, by omega, h5⟩)), mput_mk x _ h4]
            simp [nz, h1]) (fun _ => by
    rw [hf]
    simp only
    rw [ilt_end]
    rfl)
  simp only [List.take_zero, List.filter_nil, List.take_length] at key
  rw [show mk [] = [] from rfl] at key
  rw [key]
  by_cases q : Apart (z.filter nz) N
  · rw [if_pos q, if_pos ((pz_iff z N).2 q)]
  · rw [if_neg q, if_neg fun h => q ((pz_iff z N).1 h)]
def allF (f : Fr) : List Int := f.2.2.flatten ++ f.2.1.filter nz
def MayF (f : Fr) (s : List Ob) : Prop := Sto.MayS s ∧ f.2.1.length = f.2.2.length ∧ (∀ i, i < f.1.length → Sto.PropOk s.length f.1 i) ∧ Apart (allF f) s.length
instance (f : Fr) (s : List Ob) : Decidable (MayF f s) := by unfold MayF; exact inferInstance
theorem apart_mid {f : Fr} {N : Nat} : (Apart ((f.2.2.flatten ++ f.2.1).filter nz) N ∧ (-1 : Int) ∉ f.2.2.flatten) ↔ Apart (allF f) N := by
  unfold allF
  rw [List.filter_append]
  constructor
  · rintro ⟨h1, h2⟩
    have e : f.2.2.flatten.filter nz = f.2.2.flatten := by
      rw [List.filter_eq_self]
      intro x hx
      have : x ≠ -1 := fun q => h2 (q ▸ hx)
      simp [nz, this]
    rw [e] at h1
    exact h1
  · intro h
    have h2 : (-1 : Int) ∉ f.2.2.flatten := fun q => by
      have := h.1 (-1) (List.mem_append_left _ q)
      omega
    have e : f.2.2.flatten.filter nz = f.2.2.flatten := by
      rw [List.filter_eq_self]
      intro x hx
      have : x ≠ -1 := fun q => h2 (q ▸ hx)
      simp [nz, this]
    rw [e]
    exact ⟨h, h2⟩
theorem clones_eq (k : Nat) (x : List (List Int)) (h : x.length ≤ 1000000) : slices_Clones_int k x = some x := by
  have hr : P.room (P.add (P.len (P.nil (List Int))) (P.len x)) 24 = true := by
    unfold P.room
    rw [decide_eq_true_eq, len_eq, len_eq]
    unfold P.add P.nil
    simp
    omega
  unfold slices_Clones_int
  try dsimp only
  rw [hr, cond_true]
  have e : P.app [] x = x := rfl
  rw [e, ilt_dec, cond_dec, len_eq]
  by_cases h0 : 0 < (x.length : Int)
  · rw [if_pos h0]; rfl
  · rw [if_neg h0]
    have : x = [] := List.eq_nil_of_length_eq_zero (by omega)
    subst this
    exact amb_same _
theorem vars_step {σ : Type} (f : Fr) (s : List Ob) {i : Nat} (hi : i < f.1.length) (hf : FewF f) (X Y : σ) : P.cond (P.not (decide (Right s.length (f.1.getD i dP).2))) X (P.cond (P.ilt 0 (i : Int)) (P.cond (P.not (P.slt (f.1.getD (i - 1) dP).1 (f.1.getD i dP).1)) X Y) Y) = if Sto.PropOk s.length f.1 i then Y else X := by
  rw [cond_ndec, slt_dec, cond_ndec, ilt_dec, cond_dec]
  by_cases h1 : Right s.length (f.1.getD i dP).2
  · rw [if_pos h1]
    by_cases h2 : (0 : Int) < (i : Int)
    · rw [if_pos h2]
      by_cases h3 : ltS (f.1.getD (i - 1) dP).1 (f.1.getD i dP).1
      · rw [if_pos h3, if_pos (show Sto.PropOk s.length f.1 i from ⟨h1, fun _ => h3⟩)]
      · rw [if_neg h3, if_neg fun q : Sto.PropOk s.length f.1 i => h3 (q.2 (by omega))]
    · rw [if_neg h2, if_pos (show Sto.PropOk s.length f.1 i from ⟨h1, fun q => absurd q (by omega)⟩)]
  · rw [if_neg h1, if_neg fun q : Sto.PropOk s.length f.1 i => h1 q.1]
theorem at_may (f : Fr) (s : List Ob) (hf : FewF f) (hs : FewO s) (ht : f.2.2.flatten.length + f.2.1.length ≤ 1000000) : conform_May K (f, s) = some (decide (MayF f s)) := by
  unfold conform_May
  try dsimp only
  rw [Sto.st_may s (fits_few hs), bind_some, cond_ndec]
  by_cases h1 : ¬ (Sto.MayS s)
  · rw [if_neg h1, decide_eq_false fun q : MayF f s => h1 q.1]
  replace h1 := Classical.byContradiction h1
  rw [if_pos h1, ieq_eq, cond_ndec, len_eq, len_eq]
  by_cases h2 : ¬ (f.2.1.length = f.2.2.length)
  · rw [if_neg (by omega), decide_eq_false fun q : MayF f s => h2 q.2.1]
  replace h2 := Classical.byContradiction h2
  rw [if_pos (by omega)]
  rw [loop_all f.1.length (fun i => Sto.PropOk s.length f.1 i) (r := false) (by have := hf.1; omega) ?_ ?_]
  · by_cases h3 : ¬ (∀ i, i < f.1.length → Sto.PropOk s.length f.1 i)
    · rw [if_neg h3, decide_eq_false fun q : MayF f s => h3 q.2.2.1]
    replace h3 := Classical.byContradiction h3
    rw [if_pos h3, clones_eq K _ (by have := hf.2.2.1; omega), bind_some, show P.room (P.add (P.len f.2.2) (P.len [f.2.1])) 24 = true by
      have := hf.2.2.1
      unfold P.room P.add
      rw [decide_eq_true_eq, len_eq, len_eq]
      simp
      omega, cond_true]
    have e1 : P.app f.2.2 [f.2.1] = f.2.2 ++ [f.2.1] := rfl
    rw [e1]
    have hX : (f.2.2 ++ [f.2.1]).length ≤ 200000 := by have := hf.2.2.1; simp; omega
    have hl : ∀ l, l ∈ f.2.2 ++ [f.2.1] → l.length ≤ 100000 := fun l hl => by
      rcases List.mem_append.1 hl with q | q
      · exact hf.2.2.2 l q
      · simp only [List.mem_singleton] at q; subst q; exact hf.2.1
    refine (concat_goal (f.2.2 ++ [f.2.1]) hX hl _).trans ?_
    have e2 : (f.2.2 ++ [f.2.1]).flatten = f.2.2.flatten ++ f.2.1 := by simp
    rw [e2]
    refine (seen_loop (f.2.2.flatten ++ f.2.1) s.length (by rw [List.length_append]; omega) (by simp only [len_eq])).trans ?_
    by_cases h4 : ¬ (Apart ((f.2.2.flatten ++ f.2.1).filter nz) s.length)
    · rw [if_neg h4, decide_eq_false fun q : MayF f s => h4 (apart_mid.2 q.2.2.2).1]
    replace h4 := Classical.byContradiction h4
    rw [if_pos h4]
    refine (concat_goal f.2.2 (by have := hf.2.2.1; omega) hf.2.2.2 _).trans ?_
    rw [loop_any f.2.2.flatten 0 (fun x => -1 = x) false (by omega) ?_ ?_]
    · by_cases h5 : (-1 : Int) ∈ f.2.2.flatten
      · rw [if_pos, decide_eq_false fun q : MayF f s => (apart_mid.2 q.2.2.2).2 h5]
        rw [List.any_eq_true]
        exact ⟨-1, h5, by simp⟩
      · rw [if_neg, decide_eq_true (show MayF f s from ⟨h1, h2, h3, apart_mid.1 ⟨h4, h5⟩⟩)]
        · rfl
        · rw [List.any_eq_true]
          rintro ⟨x, hx, q⟩
          simp only [decide_eq_true_eq] at q
          exact h5 (q ▸ hx)
    · intro i hi
      try dsimp only
      rw [ilt_len hi, cond_true, inb_len hi, cond_true, get_nat, ieq_eq, cond_dec, ile_nat, wrap_succ (by omega)]
      by_cases q : (-1 : Int) = f.2.2.flatten.getD i 0
      · rw [if_pos q, if_pos q]; rfl
      · rw [if_neg q, if_neg q]
    · try dsimp only
      rw [ilt_end]; rfl
  · intro i hi
    have := hf.1
    try dsimp only
    rw [ilt_len hi, cond_true, inb_len hi, cond_true]
    simp only [get_nat]
    rw [Sto.st_right, bind_some, wrap_succ (by omega)]
    by_cases h0 : 0 < i
    · rw [wrap_pred h0 (by omega)]
      have hin : P.inb ((i - 1 : Nat) : Int) (P.len f.1) = true := inb_len (by omega)
      rw [hin, cond_true, get_nat]
      have := vars_step f s hi hf (some (Sum.inr (Sum.inr false)) : Option (Int ⊕ (Unit ⊕ Bool))) (some (.inl ((i + 1 : Nat) : Int)))
      rw [show (if Sto.PropOk s.length f.1 i then (Sum.inl ((i + 1 : Nat) : Int) : Int ⊕ (Unit ⊕ Bool)) else .inr (.inr false)) = _ from rfl]
      refine this.trans ?_
      split <;> rfl
    · have h00 : i = 0 := by omega
      subst h00
      have := vars_step f s hi hf (some (Sum.inr (Sum.inr false)) : Option (Int ⊕ (Unit ⊕ Bool))) (some (.inl ((0 + 1 : Nat) : Int)))
      have e0 : P.ilt 0 ((0 : Nat) : Int) = false := rfl
      rw [e0, cond_false] at this ⊢
      refine this.trans ?_
      split <;> rfl
  · try dsimp only
    rw [ilt_end]; rfl
end Go.PL.Cf
end
section
open Go Go.PG Go.PL
set_option linter.all false
namespace Go.PL.Cf
open Go.PL.Sto (Val Prp Ob dP dO Right setS withM ownM)
theorem hasP_own {l : List Prp} {m : ByteArray} : hasP l m = true ↔ ∃ v, ownM l m = some v := by
  unfold hasP
  rw [List.any_eq_true, Sto.own_find]
  constructor
  · rintro ⟨p, hp, q⟩
    simp only [decide_eq_true_eq] at q
    cases g : l.findSome? fun p => if p.1 = m then some p.2 else none with
    | some v => exact ⟨v, rfl⟩
    | none =>
      have := List.findSome?_eq_none_iff.1 g p hp
      rw [if_pos q] at this
      cases this
  · rintro ⟨v, hv⟩
    obtain ⟨p, hp, q⟩ := List.exists_of_findSome?_eq_some hv
    split at q
    · rename_i e; exact ⟨p, hp, by simpa using e⟩
    · cases q
theorem with_mem' {l : List Prp} {nm : ByteArray} {w : Val} (hs : Sto.Srt l) {p : Prp} (h : p ∈ withM l nm w) : p = (nm, w) ∨ (p ∈ l ∧ p.1 ≠ nm) := by
  unfold Sto.withM at h
  rcases List.mem_append.1 h with q | q
  · have := Sto.take_lt (nm := nm) hs p q
    exact .inr ⟨List.mem_of_mem_take q, fun e => by rw [e] at this; exact ltS_irrefl _ this⟩
  · rcases List.mem_cons.1 q with q | q
    · exact .inl q
    · have := Sto.drop_lt (nm := nm) hs p q
      exact .inr ⟨List.mem_of_mem_drop q, fun e => by rw [e] at this; exact ltS_irrefl _ this⟩
theorem ob_other {f : Fr} {s : List Ob} {i : Nat} {nm : ByteArray} {w : Val} {n : Int} {o : Sp} (hn : n ≠ (i : Int)) (h : ObP f s n o) : ObP f (setS s i nm w) n o := by
  obtain ⟨h1, h2, h3, h4, h5⟩ := h
  have e : (setS s i nm w).getD n.toNat dO = s.getD n.toNat dO := Sto.setS_ne (by omega) nm w
  unfold ObP
  rw [e, Sto.setS_len]
  exact ⟨h1, h2, h3, h4, h5⟩
theorem ob_at {f : Fr} {s : List Ob} {i : Nat} {nm : ByteArray} {w : Val} {o o' : Sp} (hm : Sto.MayS s) (h : ObP f s (i : Int) o) (hp : Within o.2 o'.2) (hk : ∀ m, m ≠ nm → (pr o.1 m = true → pr o'.1 m = true) ∧ Within (va o.1 m) (va o'.1 m))
    (hw : pr o'.1 nm = true ∧ valB f w (va o'.1 nm) = true) (hsu : ∀ m, su o'.1 m = true → su o.1 m = true ∨ m = nm) : ObP f (setS s i nm w) (i : Int) o' := by
  obtain ⟨h1, h2, h3, h4, h5⟩ := h
  have hi : i < s.length := by omega
  have hs := hm.srt hi
  simp only [Int.toNat_natCast] at h3 h4 h5
  unfold ObP
  simp only [Int.toNat_natCast]
  rw [Sto.setS_at hi, Sto.setS_len]
  refine ⟨h1, h2, val_mono hp h3, fun p q => ?_, fun m hm' => ?_⟩
  · rcases with_mem' hs q with rfl | ⟨q1, q2⟩
    · exact hw
    · obtain ⟨d1, d2⟩ := h4 p q1
      obtain ⟨k1, k2⟩ := hk p.1 q2
      exact ⟨k1 d1, val_mono k2 d2⟩
  · rw [hasP_own, Sto.own_with nm m w hs]
    by_cases e : m = nm
    · rw [if_pos e]; exact ⟨w, rfl⟩
    · rw [if_neg e]
      rcases hsu m hm' with q | q
      · exact hasP_own.1 (h5 m q)
      · exact absurd q e
theorem within_norm {o : Sp} (h : MayO o) (n : ByteArray) (v : List At) : Within (va o.1 n) (norm (va o.1 n ++ v)) := fun z hz => by
  have e := canon_iff.2 (va_canon h n)
  have hz' := hz
  rw [e] at hz'
  exact mem_norm.2 ⟨List.mem_append_left _ hz, (mem_norm.1 hz').2⟩
theorem wk_keep {o : Sp} (h : MayO o) (n : ByteArray) (v : List At) (m : ByteArray) : (pr o.1 m = true → pr (weak o n v).1 m = true) ∧ Within (va o.1 m) (va (weak o n v).1 m) ∧ su (weak o n v).1 m = su o.1 m := by
  obtain ⟨e1, e2, e3⟩ := wk_view h n v m
  refine ⟨fun q => by rw [e1, q]; simp, ?_, e2⟩
  rw [e3]
  by_cases q : n = m
  · rw [if_pos q, ← q]; exact within_norm h n v
  · rw [if_neg q]; exact fun z hz => hz
theorem gl_map {l : List Lc} {c : Lc → Lc} (hc : ∀ x, (c x).1 = x.1) (x : At) : gl (l.map c) x = (gl l x).map fun o => (c (x, o)).2 := by
  unfold gl
  rw [getL_map hc x]
  cases g : getL l x with
  | none => rfl
  | some b =>
    have := (getL_mem g).2
    simp only [Option.map_some]
    rw [← this]
theorem flat_small {f : Fr} (h : SmallF f) : f.2.2.flatten.length + f.2.1.length ≤ 1000000 := by
  have h1 := flat_le f.2.2 (m := 30) fun l hl => by simpa using List.all_eq_true.1 h.1 l hl
  have := h.2.2.1
  have := h.2.2.2
  omega
theorem few_set {s : List Ob} (h : SmallO s) (i : Nat) (nm : ByteArray) (w : Val) : FewO (setS s i nm w) := by
  refine ⟨by rw [Sto.setS_len]; have := h.2; omega, fun o ho => ?_⟩
  unfold Sto.setS at ho
  rcases List.mem_or_eq_of_mem_set ho with q | q
  · have := (smallO_few h).2 o q; exact this
  · subst q
    have h1 := Sto.with_len (s.getD i dO).1 nm w
    have h2 : (s.getD i dO).1.length ≤ 60 := by
      by_cases hi : i < s.length
      · exact h.1 i hi
      · rw [List.getD_eq_getElem?_getD, List.getElem?_eq_none (by omega)]; simp
    simp only
    omega
theorem set_ref {s : List Ob} (h : SmallO s) (v : Val) (nm : ByteArray) (w : Val) : ref19_Set K (s, v, nm, w) = some (Sto.setM s v nm w) :=
  Sto.ref_set s v nm w (fits_few (smallO_few h)) (by have := h.2; omega) fun i hi => by have := h.1 i hi; omega
end Go.PL.Cf
end
section
open Go Go.PG Go.PL
set_option linter.all false
namespace Go.PL.Cf
open Go.PL.Sto (Val Prp Ob dP dO Right setS withM ownM)
theorem lt_bytes21 {l : Nat} (h : l * BAtom TAtom ≤ reachBytes) : l ≤ 8796093022000 := by
  unfold BAtom at h
  rw [if_pos rfl] at h
  unfold reachBytes at h
  omega
def Bel (f : Fr) (n : Int) (x : At) : Prop := (∃ j : Nat, j < f.2.1.length ∧ x = (4, (j : Int)) ∧ f.2.1.getD j 0 = n ∧ n ≠ -1) ∨ ∃ j : Nat, j < f.2.2.length ∧ x = (5, (j : Int)) ∧ n ∈ f.2.2.getD j []
theorem bel_flat {f : Fr} {n : Int} {j : Nat} (hj : j < f.2.2.length) (h : n ∈ f.2.2.getD j []) : n ∈ f.2.2.flatten := List.mem_flatten.2 ⟨_, getD_mem hj [], h⟩
theorem bel_new {f : Fr} {n : Int} {j : Nat} (hj : j < f.2.1.length) (h : f.2.1.getD j 0 = n) (hn : n ≠ -1) : n ∈ f.2.1.filter nz := by
  rw [List.mem_filter]
  exact ⟨h ▸ getD_mem hj 0, by simp [nz, hn]⟩
theorem bel_one {f : Fr} {N : Nat} (h : Apart (allF f) N) {n : Int} {x y : At} (hx : Bel f n x) (hy : Bel f n y) : x = y := by
  obtain ⟨_, hn⟩ := h
  unfold allF at hn
  obtain ⟨n1, n2, n3⟩ := List.nodup_append.1 hn
  have gd : ∀ {i}, (h : i < f.2.1.length) → f.2.1.getD i 0 = f.2.1[i] := fun h => by simp [List.getD_eq_getElem?_getD, h]
  have gd5 : ∀ {i}, (h : i < f.2.2.length) → f.2.2.getD i [] = f.2.2[i] := fun h => by simp [List.getD_eq_getElem?_getD, h]
  have n2' : List.Pairwise _ _ := n2
  rw [List.pairwise_filter, List.pairwise_iff_getElem] at n2'
  have n1' : List.Pairwise _ _ := n1
  rw [List.pairwise_flatten] at n1'
  have n1p := List.pairwise_iff_getElem.1 n1'.2
  have e44 : ∀ j k, j < k → k < f.2.1.length → f.2.1.getD j 0 = n → f.2.1.getD k 0 = n → n ≠ -1 → False := fun j k hjk hk a b c => by
    have hj : j < f.2.1.length := by omega
    rw [gd hj] at a
    rw [gd hk] at b
    exact n2' j k hj hk hjk (by simp [nz, a, c]) (by simp [nz, b, c]) (a.trans b.symm)
  have e55 : ∀ j k, j < k → k < f.2.2.length → n ∈ f.2.2.getD j [] → n ∈ f.2.2.getD k [] → False := fun j k hjk hk a b => by
    have hj : j < f.2.2.length := by omega
    rw [gd5 hj] at a
    rw [gd5 hk] at b
    exact n1p j k hj hk hjk n a n b rfl
  rcases hx with ⟨j, j1, rfl, j2, j3⟩ | ⟨j, j1, rfl, j2⟩ <;> rcases hy with ⟨k, k1, rfl, k2, k3⟩ | ⟨k, k1, rfl, k2⟩
  · rcases Nat.lt_trichotomy j k with q | q | q
    · exact (e44 j k q k1 j2 k2 j3).elim
    · rw [q]
    · exact (e44 k j q j1 k2 j2 j3).elim
  · exact absurd rfl (n3 n (bel_flat k1 k2) n (bel_new j1 j2 j3))
  · exact absurd rfl (n3 n (bel_flat j1 j2) n (bel_new k1 k2 k3))
  · rcases Nat.lt_trichotomy j k with q | q | q
    · exact (e55 j k q k1 j2 k2).elim
    · rw [q]
    · exact (e55 k j q j1 k2 j2).elim
theorem of_obj {f : Fr} {n : Int} {y : At} (hn : 0 ≤ n) (h : ofB f (4, n) y = true) : y.1 = 6 ∨ Bel f n y := by
  obtain ⟨a, b⟩ := y
  unfold ofB at h
  simp only at h
  by_cases h0 : a = 0
  · rw [if_pos h0] at h; simp at h
  rw [if_neg h0] at h
  by_cases h1 : a = 1
  · rw [if_pos h1] at h; simp at h
  rw [if_neg h1] at h
  by_cases h2 : a = 2
  · rw [if_pos h2] at h; simp at h
  rw [if_neg h2] at h
  by_cases h3 : a = 3
  · rw [if_pos h3] at h; simp at h
  rw [if_neg h3] at h
  by_cases h4 : a = 4
  · rw [if_pos h4, decide_eq_true_eq] at h
    obtain ⟨_, q1, q2, q3, q4⟩ := h
    exact .inr (.inl ⟨b.toNat, by omega, by rw [h4]; congr 1; omega, q4, by omega⟩)
  rw [if_neg h4] at h
  by_cases h5 : a = 5
  · rw [if_pos h5, decide_eq_true_eq] at h
    obtain ⟨_, q1, q2, q3⟩ := h
    exact .inr (.inr ⟨b.toNat, by omega, by rw [h5]; congr 1; omega, q3⟩)
  rw [if_neg h5, decide_eq_true_eq] at h
  exact .inl h
theorem within_right {o : Sp} (n : ByteArray) {v : List At} (hv : v = norm v) : Within v (norm (va o.1 n ++ v)) := fun z hz => by
  have hz' := hz
  rw [hv] at hz'
  exact mem_norm.2 ⟨List.mem_append_right _ hz, (mem_norm.1 hz').2⟩
theorem st_keep {o : Sp} (h : MayO o) (n : ByteArray) (v : List At) (m : ByteArray) (hm : m ≠ n) : (pr o.1 m = true → pr (strong o n v).1 m = true) ∧ Within (va o.1 m) (va (strong o n v).1 m) ∧ (su (strong o n v).1 m = true → su o.1 m = true) := by
  obtain ⟨e1, e2, e3⟩ := st_view h n v m
  have hnm : ¬ n = m := fun q => hm q.symm
  refine ⟨fun q => by rw [e1, q]; simp, ?_, fun q => ?_⟩
  · rw [e3, if_neg hnm]; exact fun z hz => hz
  · rw [e2, decide_eq_false hnm, Bool.false_or] at q; exact q
theorem st_write {f : Fr} {s : List Ob} {a : Sta} {i : Nat} {nm : ByteArray} {w : Val} {v wv : List At} (ha : MayS a) (mf : MayF f s) (hv : v = norm v) (hw : wv = norm wv) (hi : valB f (4, (i : Int)) v = true) (hwv : valB f w wv = true) (h : StV f s a) : StV f (setS s i nm w) (writeT a v nm wv) := by
  obtain ⟨h1, h2, h3, h4⟩ := h
  rw [writeT_eq ha]
  have key : ∀ n x, Bel f n x → LcP f s a n x → LcP f (setS s i nm w) (a.1, a.2.1, a.2.2.map (wrL v nm wv)) n x := by
    rintro n x hb ⟨o, g, ho⟩
    have mo := gl_ok ha.2.1.2 g
    refine ⟨(wrL v nm wv (x, o)).2, by
      show gl (a.2.2.map (wrL v nm wv)) x = _
      rw [gl_map (wrL_fst v nm wv), g]; rfl, ?_⟩
    unfold valB at hi
    rw [List.any_eq_true] at hi
    obtain ⟨y, y1, y2⟩ := hi
    have hy := of_obj (by omega) y2
    by_cases q : n = (i : Int)
    · subst q
      have hit : hits v x := by
        rcases hy with z | z
        · left
          rw [hv] at y1
          have := (mem_norm.1 y1).2
          obtain ⟨c, d⟩ := y
          simp only at z
          subst z
          unfold RightA at this
          have : d = 0 := by simp only at this; omega
          subst this
          exact y1
        · right
          rw [bel_one mf.2.2.2 hb z, ← hv]
          exact y1
      unfold wrL
      simp only
      rw [if_pos hit]
      unfold wr
      split
      · obtain ⟨e1, e2, e3⟩ := st_view mo nm wv nm
        refine ob_at mf.1 ho (by rw [st_snd mo]; exact fun z hz => hz) (fun m hm => ⟨(st_keep mo nm wv m hm).1, (st_keep mo nm wv m hm).2.1⟩) ⟨by rw [e1]; simp, by rw [e3, if_pos rfl, ← hw]; exact hwv⟩ (fun m qm => ?_)
        by_cases z : m = nm
        · exact .inr z
        · exact .inl ((st_keep mo nm wv m z).2.2 qm)
      · obtain ⟨e1, e2, e3⟩ := wk_view mo nm wv nm
        refine ob_at mf.1 ho (by rw [wk_snd mo]; exact fun z hz => hz) (fun m hm => ⟨(wk_keep mo nm wv m).1, (wk_keep mo nm wv m).2.1⟩) ⟨by rw [e1]; simp, ?_⟩ (fun m qm => .inl (by rw [← (wk_keep mo nm wv m).2.2]; exact qm))
        rw [e3, if_pos rfl]
        exact val_mono (within_right nm hw) hwv
    · refine ob_other q ?_
      unfold wrL
      simp only
      by_cases hit : hits v x
      · rw [if_pos hit]
        unfold wr
        by_cases sg : stg v
        · exfalso
          have ex := (stg_hits sg x).1 hit
          obtain ⟨b, hb1⟩ := List.length_eq_one_iff.1 sg.1
          have yb : y = b := by
            rw [hv, hb1] at y1
            exact List.mem_singleton.1 y1
          have xb : x = b := by rw [ex, hb1]; rfl
          have xy : x = y := xb.trans yb.symm
          have k4 := sg.2
          rw [hb1] at k4
          have k4 : b.1 = 4 := k4
          rcases hy with z | z
          · rw [yb] at z; omega
          · rw [← xy] at z
            rcases z with ⟨j, _, e, e2, _⟩ | ⟨j, _, e, _⟩
            · rcases hb with ⟨k, _, e', e3, _⟩ | ⟨k, _, e', _⟩
              · rw [e] at e'
                injection e' with _ e'
                have : j = k := by omega
                subst this
                exact q (e3.symm.trans e2)
              · rw [e] at e'; injection e' with e' _; omega
            · rw [xb] at e
              rw [e] at k4
              cases k4
        · rw [if_neg sg]
          obtain ⟨z1, z2, z3, z4, z5⟩ := ho
          exact ⟨z1, z2, by rw [wk_snd mo]; exact z3, fun p hp => ⟨(wk_keep mo nm wv p.1).1 (z4 p hp).1, val_mono (wk_keep mo nm wv p.1).2.1 (z4 p hp).2⟩, fun m qm => z5 m (by rw [← (wk_keep mo nm wv m).2.2]; exact qm)⟩
      · rw [if_neg hit]; exact ho
  exact ⟨h1, h2, fun j hj hne => key _ _ (.inl ⟨j, hj, rfl, rfl, hne⟩) (h3 j hj hne), fun j hj n hn => key _ _ (.inr ⟨j, hj, rfl, hn⟩) (h4 j hj n hn)⟩
theorem may_setF {f : Fr} {s : List Ob} {i : Nat} {nm : ByteArray} {w : Val} (h : MayF f s) (hi : i < s.length) (hw : Right s.length w) : MayF f (setS s i nm w) := by
  obtain ⟨h1, h2, h3, h4⟩ := h
  refine ⟨Sto.may_set h1 hi hw, h2, ?_, ?_⟩
  · rw [Sto.setS_len]; exact h3
  · rw [Sto.setS_len]; exact h4
theorem glen {n : Nat} {X : Option Bool} (h : n ≤ 30 → X = some true) : P.cond (P.ilt 30 (n : Int)) (P.bind (law21_fixed K ()) fun r => some r) X = some true := by
  rw [ilt_dec, cond_dec, fixed21, bind_some]
  by_cases q : (30 : Int) < (n : Int)
  · rw [if_pos q]
  · rw [if_neg q]; exact h (by omega)
theorem var_norm {a : Sta} (h : MayS a) (n : ByteArray) : var a.2.1 n = norm (var a.2.1 n) := by
  unfold var getV
  cases g : a.2.1.find? fun b => decide (b.1 = n) with
  | none => rfl
  | some b => exact h.1.2 b (List.mem_of_find?_eq_some g)
theorem writes21 (x : Al × (ByteArray × ByteArray × Val × List At)) (h1 : x.1.1.2.2.length ≤ 9223372036854775807) (h2 : x.1.2.1.length ≤ 9223372036854775807) (h3 : x.2.2.2.2.length ≤ 8796093022000) : law21_ConformWrites K x = some true := by
  obtain ⟨⟨f, s, a⟩, ⟨yX, yN, yW, yV⟩⟩ := x
  unfold law21_ConformWrites
  try dsimp only at h1 h2 h3 ⊢
  apply g0
  rw [law_small (f, s, a) h1 h2, bind_some]
  refine g21 fun sm => ?_
  obtain ⟨sf, so, sa⟩ := sm
  have ff := smallF_few sf
  have fo := smallO_few so
  have fa := small_fewT sa
  rw [ref_may8 a fa, bind_some]
  refine g21 fun ma => ?_
  rw [ref_may yV h3, bind_some]
  refine g21 fun mv => ?_
  rw [len_eq]
  refine glen fun lv => ?_
  rw [at_may f s ff fo (flat_small sf), bind_some]
  refine g21 fun mf => ?_
  rw [at_state f s a ff fo fa, bind_some]
  refine g21 fun st => ?_
  have st := (st_iff ma).1 st
  rw [at_value f yW yV ff (by omega), bind_some]
  have vd : valB f yW yV = decide (valB f yW yV = true) := by cases valB f yW yV <;> rfl
  rw [vd]
  refine g21 fun hwv => ?_
  rw [ref_varF f yX ff, bind_some, set_ref so, bind_some]
  unfold Sto.setM
  split
  · rename_i q
    obtain ⟨_, q1, q2, q3⟩ := q
    have hr : 0 ≤ (varF f yX).2 ∧ (varF f yX).2 < s.length := Sto.right4 q1 q2
    have l1 : a.2.1.length ≤ 100000 := fa.1
    try dsimp only
    rw [not_true, cond_false]
    have bd := small_bdT sa
    have lvar : (var a.2.1 yX).length ≤ 100000 := var_few fa yX
    have m1 := writeT_may ma (var a.2.1 yX) yN yV
    have b1 := bd_fewT (writeT_bd bd (var a.2.1 yX) yN (w := yV) (j := 30) lv) (by omega)
    have hi : (varF f yX).2.toNat < s.length := by omega
    have e4 : varF f yX = (4, (((varF f yX).2.toNat : Nat) : Int)) := by
      refine Prod.ext q1 ?_
      show (varF f yX).2 = _
      omega
    have hval : valB f (4, (((varF f yX).2.toNat : Nat) : Int)) (var a.2.1 yX) = true := by
      rw [← e4]
      exact st.2.1 yX
    rw [ref_var a yX (by show a.2.1.length ≤ 1000000; omega), bind_some, ref_write11 a (var a.2.1 yX) yN yV fa lvar (by omega), bind_some, at_state f _ _ ff (few_set so _ _ _) b1, bind_some,
      decide_eq_true ((st_iff m1).2 (st_write ma mf (var_norm ma yX) mv hval hwv st)), cond_true, at_may f _ ff (few_set so _ _ _) (flat_small sf), bind_some, decide_eq_true (may_setF mf hi q3)]
  · rfl
end Go.PL.Cf
end
section
open Go Go.PG Go.PL
set_option linter.all false
namespace Go.PL.Cf
open Go.PL.Sto (Val Prp Ob dP dO Right setS withM ownM lookM getM tell)
end Go.PL.Cf
end

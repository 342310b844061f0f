/- Lemmas for the claim. -/
import Derived.Test.YtoicfdfjjnfgaaaG5
import Derived.Test.YtoicfdfjjnfgaaaG4
import Derived.KernelRfl
set_option linter.all false
section
open Go Go.PG Go.PL
set_option linter.all false
namespace Go.PL
theorem range_findSome {α ρ : Type} (l : List α) (d : α) (h : α → Option ρ) : (List.range l.length).findSome? (fun i => h (l.getD i d)) = l.findSome? h := by
  conv => rhs; rw [← range_map l d]
  rw [List.findSome?_map]; rfl
theorem findSome_if {α ρ : Type} (q : α → Prop) [DecidablePred q] (g : α → ρ) : ∀ l : List α, l.findSome? (fun x => if q x then some (g x) else none) = (l.find? fun x => decide (q x)).map g := by
  intro l
  induction l with
  | nil => rfl
  | cons a l ih =>
    rw [List.findSome?_cons, List.find?_cons]
    by_cases h : q a
    · rw [if_pos h, decide_eq_true h]; rfl
    · rw [if_neg h, decide_eq_false h]; exact ih
theorem loop_find {α ρ σ : Type} (l : List α) (d : α) (q : α → Prop) [DecidablePred q] (g : α → ρ) {f : Int → Option (Int ⊕ (Unit ⊕ ρ))} {A : Option σ} {B : ρ → Option σ} (hn : l.length ≤ 1000000000)
    (hs : ∀ i : Nat, i < l.length → f (i : Int) = some (if q (l.getD i d) then .inr (.inr (g (l.getD i d))) else .inl ((i + 1 : Nat) : Int))) (he : f (l.length : Int) = some (.inr (.inl ()))) :
    P.bind (P.iter K f 0) (P.either (fun (_ : Unit) => A) B) = match l.find? fun x => decide (q x) with
      | some x => B (g x)
      | none => A := by
  rw [iter_find0 (n := l.length) (e := .inl ()) (fun i => if q (l.getD i d) then some (.inr (g (l.getD i d))) else none) K (fun i hi => by
    rw [hs i hi]
    by_cases h : q (l.getD i d)
    · rw [if_pos h, if_pos h]
    · rw [if_neg h, if_neg h]) he (by unfold K; omega)]
  rw [range_findSome l d (fun x => if q x then some (Sum.inr (g x) : Unit ⊕ ρ) else none), findSome_if q (fun x => (Sum.inr (g x) : Unit ⊕ ρ)) l, bind_some]
  cases l.find? fun x => decide (q x) with
  | none => rfl
  | some x => rfl
def getV (l : List Bv) (n : ByteArray) : Option Bv := l.find? fun b => decide (b.1 = n)
def var (l : List Bv) (n : ByteArray) : List At := match getV l n with
  | some b => b.2
  | none => [(0, 0)]
def getL (l : List Lc) (x : At) : Option Lc := l.find? fun b => decide (b.1 = x)
def locR (l : List Lc) (x : At) : Sp × Bool := match getL l x with
  | some b => (b.2, true)
  | none => (([], []), false)
theorem ref_var (s : Sta) (n : ByteArray) (h : s.2.1.length ≤ 1000000) : ref08_Var K (s, n) = some (var s.2.1 n) := by
  unfold ref08_Var
  try dsimp only
  rw [loop_find s.2.1 dB (fun b => b.1 = n) (fun b => b.2) (by omega) ?_ ?_]
  · unfold var getV
    cases s.2.1.find? fun b => decide (b.1 = n) with
    | none => rfl
    | some b => rfl
  · intro i hi
    try dsimp only
    rw [ilt_len hi, cond_true, inb_len hi, cond_true, cond_true, get_nat, seq_dec, cond_dec, wrap_succ (by omega)]
    by_cases q : (s.2.1.getD i dB).1 = n
    · rw [if_pos q, if_pos q]
    · rw [if_neg q, if_neg q]
  · try dsimp only
    rw [ilt_end]; rfl
theorem ref_loc (s : Sta) (x : At) (h : s.2.2.length ≤ 1000000) : ref08_Loc K (s, x) = some (locR s.2.2 x) := by
  unfold ref08_Loc
  try dsimp only
  rw [loop_find s.2.2 dL (fun b => b.1 = x) (fun b => (b.2, true)) (by omega) ?_ ?_]
  · unfold locR getL
    cases s.2.2.find? fun b => decide (b.1 = x) with
    | none => rfl
    | some b => rfl
  · intro i hi
    try dsimp only
    rw [ilt_len hi, cond_true, inb_len hi, cond_true, cond_true, get_nat, eqA_dec, cond_dec, wrap_succ (by omega)]
    by_cases q : (s.2.2.getD i dL).1 = x
    · rw [if_pos q, if_pos q]
    · rw [if_neg q, if_neg q]
  · try dsimp only
    rw [ilt_end]; rfl
def SmallL (l : Lc) : Prop := l.2.1.length ≤ 40 ∧ l.2.2.length ≤ 40 ∧ ∀ f, f ∈ l.2.1 → f.2.2.length ≤ 40
instance (l : Lc) : Decidable (SmallL l) := by unfold SmallL; exact inferInstance
def SmallT (s : Sta) : Prop := s.2.1.length ≤ 40 ∧ s.2.2.length ≤ 40 ∧ (∀ b, b ∈ s.2.1 → b.2.length ≤ 40) ∧ ∀ l, l ∈ s.2.2 → SmallL l
instance (s : Sta) : Decidable (SmallT s) := by unfold SmallT; exact inferInstance
theorem small_fewL {l : Lc} (h : SmallL l) : FewS l.2 := ⟨by have := h.1; omega, fun f hf => by have := h.2.2 f hf; omega, by have := h.2.1; omega⟩
theorem small_fewT {s : Sta} (h : SmallT s) : FewT s := ⟨by have := h.1; omega, fun b hb => by have := h.2.2.1 b hb; omega, by have := h.2.1; omega, fun l hl => small_fewL (h.2.2.2 l hl)⟩
theorem ilt_dec40 {α : Type} (l : List α) : P.ilt (40 : Int) (P.len l) = decide (¬ l.length ≤ 40) := by rw [ilt_dec, len_eq, decide_eq_decide]; omega
theorem ref_small8 (s : Sta) : ref08_Small K s = some (decide (SmallT s)) := by
  unfold ref08_Small
  try dsimp only
  rw [ilt_dec40, cond_dec, ilt_dec40, cond_dec]
  by_cases q1 : s.2.1.length ≤ 40
  · by_cases q2 : s.2.2.length ≤ 40
    · rw [if_neg (fun z => z q1), if_neg (fun z => z q2), loop_all s.2.1.length (fun i => (s.2.1.getD i dB).2.length ≤ 40) (r := false) (by omega) ?_ ?_]
      · rw [loop_all s.2.2.length (fun i => SmallL (s.2.2.getD i dL)) (r := false) (by omega) ?_ ?_]
        · have e1 := forall_getD (l := s.2.1) dB (p := fun b => b.2.length ≤ 40)
          have e2 := forall_getD (l := s.2.2) dL (p := SmallL)
          by_cases z1 : ∀ i, i < s.2.1.length → (s.2.1.getD i dB).2.length ≤ 40
          · by_cases z2 : ∀ i, i < s.2.2.length → SmallL (s.2.2.getD i dL)
            · rw [if_pos z1, if_pos z2, decide_eq_true (show SmallT s from ⟨q1, q2, e1.1 z1, e2.1 z2⟩)]
            · rw [if_pos z1, if_neg z2, decide_eq_false (fun z : SmallT s => z2 (e2.2 z.2.2.2))]
          · rw [if_neg z1, decide_eq_false (fun z : SmallT s => z1 (e1.2 z.2.2.1))]
        · intro i hi
          try dsimp only
          rw [ilt_len hi, cond_true, inb_len hi, cond_true, cond_true, get_nat, ilt_dec40, cond_dec, ilt_dec40, cond_dec, wrap_succ (by omega)]
          generalize s.2.2.getD i dL = l
          by_cases y1 : l.2.1.length ≤ 40
          · by_cases y2 : l.2.2.length ≤ 40
            · rw [if_neg (fun z => z y1), if_neg (fun z => z y2), loop_all l.2.1.length (fun j => (l.2.1.getD j dF).2.2.length ≤ 40) (r := .inr (.inr false)) (by omega) ?_ ?_]
              · have e3 := forall_getD (l := l.2.1) dF (p := fun f => f.2.2.length ≤ 40)
                by_cases y3 : ∀ j, j < l.2.1.length → (l.2.1.getD j dF).2.2.length ≤ 40
                · rw [if_pos y3, if_pos (show SmallL l from ⟨y1, y2, e3.1 y3⟩)]
                · rw [if_neg y3, if_neg (fun z : SmallL l => y3 (e3.2 z.2.2))]
              · intro j hj
                try dsimp only
                rw [cond_true, ilt_len hj, cond_true, cond_true, inb_len hj, cond_true, get_nat, ilt_dec40, cond_dec, wrap_succ (by omega)]
                by_cases y3 : (l.2.1.getD j dF).2.2.length ≤ 40
                · rw [if_neg (fun z => z y3), if_pos y3]
                · rw [if_pos y3, if_neg y3]
              · try dsimp only
                rw [cond_true, ilt_end]; rfl
            · rw [if_neg (fun z => z y1), if_pos y2, if_neg (fun z : SmallL l => y2 z.2.1)]
          · rw [if_pos y1, if_neg (fun z : SmallL l => y1 z.1)]
        · try dsimp only
          rw [ilt_end]; rfl
      · intro i hi
        try dsimp only
        rw [ilt_len hi, cond_true, inb_len hi, cond_true, get_nat, ilt_dec40, cond_dec, wrap_succ (by omega)]
        by_cases y3 : (s.2.1.getD i dB).2.length ≤ 40
        · rw [if_neg (fun z => z y3), if_pos y3]
        · rw [if_pos y3, if_neg y3]
      · try dsimp only
        rw [ilt_end]; rfl
    · rw [if_neg (fun z => z q1), if_pos q2, decide_eq_false (fun z : SmallT s => q2 z.2.1)]
  · rw [if_pos q1, decide_eq_false (fun z : SmallT s => q1 z.1)]
def WithinT (a b : Sta) : Prop := MayS a ∧ MayS b ∧ (a.1 = true ∨ (b.1 = false ∧ (∀ v, v ∈ a.2.1 → Within v.2 (var b.2.1 v.1)) ∧ (∀ v, v ∈ b.2.1 → Within (var a.2.1 v.1) v.2) ∧ ∀ l, l ∈ a.2.2 → (locR b.2.2 l.1).2 = true ∧ WithinO l.2 (locR b.2.2 l.1).1))
instance (a b : Sta) : Decidable (WithinT a b) := by unfold WithinT; exact inferInstance
theorem var_few {s : Sta} (h : FewT s) (n : ByteArray) : (var s.2.1 n).length ≤ 100000 := by
  unfold var getV
  cases q : s.2.1.find? fun b => decide (b.1 = n) with
  | none => simp
  | some b => exact h.2.1 b (List.mem_of_find?_eq_some q)
end Go.PL
end
section
open Go Go.PG Go.PL
set_option linter.all false
namespace Go.PL
theorem loop_st {τ ρ σ : Type} (n : Nat) (s : Nat → τ) (s0 e : τ) {f : Int × τ → Option ((Int × τ) ⊕ (τ ⊕ ρ))} {A : τ → Option σ} {B : ρ → Option σ} (hn : n ≤ 1000000000) (h0 : s 0 = s0) (h1 : s n = e)
    (hs : ∀ i : Nat, i < n → f ((i : Int), s i) = some (.inl (((i + 1 : Nat) : Int), s (i + 1)))) (he : f ((n : Int), e) = some (.inr (.inl e))) :
    P.bind (P.iter K f (0, s0)) (P.either A B) = A e := by
  subst h0; subst h1
  exact loop_fold n s hn hs he
theorem room_one {α : Type} (l : List α) (x : α) (b : Nat) (h : l.length ≤ 1000000) (hb : b ≤ 64) : P.room (P.add (P.len l) (P.len [x])) b = true := by
  rw [len_eq, len_eq, room_nat]
  have : (l.length + [x].length) * b ≤ 1000001 * 64 := Nat.mul_le_mul (by simp; omega) hb
  omega
theorem ob_copy (o : Sp) (h : FewS o) : object_Copy K o = some o := by
  unfold object_Copy
  try dsimp only
  rw [at_clone K o.2 (by have := h.2.2; omega), bind_some, copy_run o.1 o.2 (by have := h.1; omega) _ (fun i hi => copy_step o.1 (by have := h.1; omega) h.2.1 o.2 i hi) (copy_end _ _ _), bind_some, either_inl]
def stg (v : List At) : Prop := (norm v).length = 1 ∧ ((norm v).getD 0 dA).1 = 4
instance (v : List At) : Decidable (stg v) := by unfold stg; exact inferInstance
def hits (v : List At) (x : At) : Prop := (6, 0) ∈ norm v ∨ x ∈ norm v
instance (v : List At) (x : At) : Decidable (hits v x) := by unfold hits; exact inferInstance
def wr (v : List At) (n : ByteArray) (w : List At) (o : Sp) : Sp := if stg v then strong o n w else weak o n w
theorem norm_norm (l : List At) : norm (norm l) = norm l := (canon_iff.2 (norm_canon l)).symm
theorem get_dL (l : List Lc) (i : Nat) : P.get l (i : Int) (((0 : Int), (0 : Int)), [], []) = l.getD i dL := get_nat _ _ _
theorem get_dB (l : List Bv) (i : Nat) : P.get l (i : Int) ((ByteArray.mk #[]), []) = l.getD i dB := get_nat _ _ _
end Go.PL
end
section
open Go Go.PG Go.PL
set_option linter.all false
namespace Go.PL
def BdT (k : Nat) (s : Sta) : Prop := s.2.1.length ≤ k ∧ (∀ b, b ∈ s.2.1 → b.2.length ≤ k) ∧ s.2.2.length ≤ k ∧ ∀ l, l ∈ s.2.2 → Bd k l.2
theorem small_bdT {s : Sta} (h : SmallT s) : BdT 40 s := ⟨h.1, h.2.2.1, h.2.1, fun l hl => ⟨(h.2.2.2 l hl).1, (h.2.2.2 l hl).2.2, (h.2.2.2 l hl).2.1⟩⟩
theorem bd_fewT {s : Sta} {k : Nat} (h : BdT k s) (hk : k ≤ 100000) : FewT s := ⟨Nat.le_trans h.1 hk, fun b hb => Nat.le_trans (h.2.1 b hb) hk, Nat.le_trans h.2.2.1 hk, fun l hl => bd_few (h.2.2.2 l hl) hk⟩
end Go.PL
end
section
open Go Go.PG Go.PL
set_option linter.all false
namespace Go.PL
theorem getL_mem {l : List Lc} {x : At} {b : Lc} (h : getL l x = some b) : b ∈ l ∧ b.1 = x := ⟨List.mem_of_find?_eq_some h, of_decide_eq_true (by have := List.find?_some h; exact this)⟩
theorem risesL_inj {l : List Lc} (h : RisesL l) {f g : Lc} (hf : f ∈ l) (hg : g ∈ l) (e : f.1 = g.1) : f = g := by
  induction l with
  | nil => cases hf
  | cons a l ih =>
    obtain ⟨h1, h2⟩ := List.pairwise_cons.1 h
    rcases List.mem_cons.1 hf with rfl | hf'
    · rcases List.mem_cons.1 hg with rfl | hg'
      · rfl
      · exact absurd (h1 g hg') (by rw [e]; exact ltA_irrefl _)
    · rcases List.mem_cons.1 hg with rfl | hg'
      · exact absurd (h1 f hf') (by rw [e]; exact ltA_irrefl _)
      · exact ih h2 hf' hg'
theorem getL_none {l : List Lc} {x : At} (h : getL l x = none) {f : Lc} (hf : f ∈ l) : f.1 ≠ x := by
  unfold getL at h
  rw [List.find?_eq_none] at h
  intro e
  exact h f hf (decide_eq_true e)
theorem getL_of_mem {l : List Lc} (h : RisesL l) {f : Lc} (hf : f ∈ l) : getL l f.1 = some f := by
  cases q : getL l f.1 with
  | none => exact absurd rfl (getL_none q hf)
  | some g => rw [risesL_inj h (getL_mem q).1 hf (getL_mem q).2]
end Go.PL
end
section
open Go Go.PG Go.PL
set_option linter.all false
namespace Go.PL
theorem getV_mem {l : List Bv} {n : ByteArray} {b : Bv} (h : getV l n = some b) : b ∈ l ∧ b.1 = n := ⟨List.mem_of_find?_eq_some h, of_decide_eq_true (by have := List.find?_some h; exact this)⟩
theorem getV_none {l : List Bv} {n : ByteArray} (h : getV l n = none) {f : Bv} (hf : f ∈ l) : f.1 ≠ n := by
  unfold getV at h
  rw [List.find?_eq_none] at h
  intro e
  exact h f hf (decide_eq_true e)
theorem risesB_inj {l : List Bv} (h : RisesB l) {f g : Bv} (hf : f ∈ l) (hg : g ∈ l) (e : f.1 = g.1) : f = g := by
  induction l with
  | nil => cases hf
  | cons a l ih =>
    obtain ⟨h1, h2⟩ := List.pairwise_cons.1 h
    rcases List.mem_cons.1 hf with rfl | hf'
    · rcases List.mem_cons.1 hg with rfl | hg'
      · rfl
      · exact absurd (h1 g hg') (by rw [e]; exact ltS_irrefl _)
    · rcases List.mem_cons.1 hg with rfl | hg'
      · exact absurd (h1 f hf') (by rw [e]; exact ltS_irrefl _)
      · exact ih h2 hf' hg'
theorem getV_of_mem {l : List Bv} (h : RisesB l) {f : Bv} (hf : f ∈ l) : getV l f.1 = some f := by
  cases q : getV l f.1 with
  | none => exact absurd rfl (getV_none q hf)
  | some g => rw [risesB_inj h (getV_mem q).1 hf (getV_mem q).2]
end Go.PL
end
section
open Go Go.PG Go.PL
set_option linter.all false
namespace Go.PL
structure Ord {κ : Type} (lt : κ → κ → Prop) : Prop where
  irr : ∀ a, ¬ lt a a
  tr : ∀ {a b c}, lt a b → lt b c → lt a c
  tri : ∀ a b, lt a b ∨ a = b ∨ lt b a
theorem ordS : Ord ltS := ⟨ltS_irrefl, ltS_trans, ltS_tri⟩
theorem ordA : Ord ltA := ⟨ltA_irrefl, ltA_trans, ltA_tri⟩
section
variable {α κ : Type} {lt : κ → κ → Prop} [DecidableRel lt] {key : α → κ}
abbrev Up (lt : κ → κ → Prop) (key : α → κ) (l : List α) : Prop := l.Pairwise fun a b => lt (key a) (key b)
def insK (lt : κ → κ → Prop) [DecidableRel lt] (key : α → κ) (l : List α) (x : α) : List α := l.filter (fun a => decide (lt (key a) (key x))) ++ x :: l.filter (fun a => decide (lt (key x) (key a)))
theorem insK_mem (O : Ord lt) {l : List α} {x a : α} : a ∈ insK lt key l x ↔ a = x ∨ (a ∈ l ∧ key a ≠ key x) := by
  unfold insK
  simp only [List.mem_append, List.mem_cons, List.mem_filter, decide_eq_true_eq]
  constructor
  · rintro (⟨h1, h2⟩ | rfl | ⟨h1, h2⟩)
    · exact .inr ⟨h1, fun e => O.irr (key x) (by rw [e] at h2; exact h2)⟩
    · exact .inl rfl
    · exact .inr ⟨h1, fun e => O.irr (key x) (by rw [e] at h2; exact h2)⟩
  · rintro (rfl | ⟨h1, h2⟩)
    · exact .inr (.inl rfl)
    · rcases O.tri (key a) (key x) with h | h | h
      · exact .inl ⟨h1, h⟩
      · exact absurd h h2
      · exact .inr (.inr ⟨h1, h⟩)
theorem insK_up (O : Ord lt) {l : List α} (h : Up lt key l) (x : α) : Up lt key (insK lt key l x) := by
  unfold insK Up
  rw [List.pairwise_append, List.pairwise_cons]
  refine ⟨h.filter _, ⟨fun b hb => ?_, h.filter _⟩, fun a ha b hb => ?_⟩
  · exact of_decide_eq_true (List.mem_filter.1 hb).2
  · have h1 := of_decide_eq_true (List.mem_filter.1 ha).2
    rcases List.mem_cons.1 hb with rfl | hb
    · exact h1
    · exact O.tr h1 (of_decide_eq_true (List.mem_filter.1 hb).2)
theorem insK_length (l : List α) (x : α) : (insK lt key l x).length ≤ l.length + l.length + 1 := by
  unfold insK
  have h1 := List.length_filter_le (fun a => decide (lt (key a) (key x))) l
  have h2 := List.length_filter_le (fun a => decide (lt (key x) (key a))) l
  simp only [List.length_append, List.length_cons]
  omega
theorem insK_end (O : Ord lt) {l : List α} {x : α} (h : ∀ a, a ∈ l → lt (key a) (key x)) : insK lt key l x = l ++ [x] := by
  unfold insK
  rw [List.filter_eq_self.2 fun a ha => decide_eq_true (h a ha), List.filter_eq_nil_iff.2 fun a ha q => O.irr _ (O.tr (h a ha) (of_decide_eq_true q))]
def refK (lt : κ → κ → Prop) [DecidableRel lt] (key : α → κ) (t : List α) (x : α) : Bool × List α := if ∀ a, a ∈ t → lt (key a) (key x) then (false, t) else (true, insK lt key t x)
theorem refK_step (O : Ord lt) {t : List α} {y : α} (hu : Up lt key (t ++ [y])) (x : α) :
    (lt (key y) (key x) → (∀ a, a ∈ t → lt (key a) (key x)) ∧ refK lt key (t ++ [y]) x = (false, t ++ [y])) ∧
    (¬ lt (key y) (key x) → (∀ a, a ∈ t → lt (key a) (key x)) → (key y = key x → refK lt key (t ++ [y]) x = (true, t ++ [x])) ∧ (key y ≠ key x → refK lt key (t ++ [y]) x = (true, t ++ [x] ++ [y]))) ∧
    (¬ (∀ a, a ∈ t → lt (key a) (key x)) → key y ≠ key x ∧ refK lt key (t ++ [y]) x = (true, insK lt key t x ++ [y])) := by
  have hp := (List.pairwise_append.1 hu).2.2
  refine ⟨fun h => ?_, fun h h2 => ?_, fun h => ?_⟩
  · have ha : ∀ a, a ∈ t → lt (key a) (key x) := fun a ha => O.tr (hp a ha y (by simp)) h
    exact ⟨ha, by
      unfold refK
      rw [if_pos fun a q => ?_]
      rcases List.mem_append.1 q with q | q
      · exact ha a q
      · rw [List.mem_singleton] at q; subst q; exact h⟩
  · have e1 : refK lt key (t ++ [y]) x = (true, insK lt key (t ++ [y]) x) := by unfold refK; rw [if_neg fun q => h (q y (by simp))]
    have e2 : (t ++ [y]).filter (fun a => decide (lt (key a) (key x))) = t := by
      rw [List.filter_append, List.filter_eq_self.2 fun a ha => decide_eq_true (h2 a ha), List.filter_cons_of_neg (by simpa using h)]; simp
    have e3 : t.filter (fun a => decide (lt (key x) (key a))) = [] := List.filter_eq_nil_iff.2 fun a ha q => O.irr _ (O.tr (h2 a ha) (of_decide_eq_true q))
    refine ⟨fun q => ?_, fun q => ?_⟩
    · rw [e1, insK, e2, List.filter_append, e3, List.filter_cons_of_neg (by rw [decide_eq_true_eq, q]; exact O.irr _)]; simp
    · rw [e1, insK, e2, List.filter_append, e3, List.filter_cons_of_pos (by
        rw [decide_eq_true_eq]
        rcases O.tri (key x) (key y) with z | z | z
        · exact z
        · exact absurd z.symm q
        · exact absurd z h)]
      simp
  · have hy : lt (key x) (key y) := by
      apply Classical.byContradiction
      intro q
      refine h fun a ha => ?_
      have := hp a ha y (by simp)
      rcases O.tri (key x) (key y) with z | z | z
      · exact absurd z q
      · rw [z]; exact this
      · exact O.tr this z
    refine ⟨fun e => O.irr (key x) (by rw [e] at hy; exact hy), ?_⟩
    unfold refK
    rw [if_neg fun q => h fun a ha => q a (by simp [ha])]
    congr 1
    unfold insK
    rw [List.filter_append, List.filter_append, List.filter_cons_of_neg (by rw [decide_eq_true_eq]; exact fun z => O.irr _ (O.tr hy z)), List.filter_cons_of_pos (by rw [decide_eq_true_eq]; exact hy)]
    simp
theorem refK_end (O : Ord lt) {l : List α} (x : α) : (if (refK lt key l x).1 then (refK lt key l x).2 else (refK lt key l x).2 ++ [x]) = insK lt key l x := by
  unfold refK
  by_cases h : ∀ a, a ∈ l → lt (key a) (key x)
  · rw [if_pos h]; simp [insK_end O h]
  · rw [if_neg h]; simp
end
instance : DecidableRel ltA := fun a b => by unfold ltA; exact inferInstance
end Go.PL
end
section
open Go Go.PG Go.PL
set_option linter.all false
namespace Go.PL
abbrev insB (l : List Bv) (x : Bv) : List Bv := insK ltS (fun b : Bv => b.1) l x
abbrev insL (l : List Lc) (x : Lc) : List Lc := insK ltA (fun b : Lc => b.1) l x
def setT (s : Sta) (n : ByteArray) (v : List At) : Sta := if MayS s then (if s.1 = true then (true, [], []) else (s.1, insB s.2.1 (n, norm v), s.2.2)) else (false, [], [])
def putT (s : Sta) (x : At) (o : Sp) : Sta := if MayS s then (if PlaceA x then (if MayO o then (if s.1 = true then (true, [], []) else (s.1, s.2.1, insL s.2.2 (x, o))) else (false, [], [])) else (false, [], [])) else (false, [], [])
theorem cond_of {α : Type} {b : Bool} (h : b = true) (x y : α) : P.cond b x y = x := by rw [h]; rfl
theorem cond_of' {α : Type} {b : Bool} (h : ¬ b = true) (x y : α) : P.cond b x y = y := by
  cases b with
  | false => rfl
  | true => exact absurd rfl h
theorem map_some' {α β : Type} (f : α → β) (x : α) : P.map f (some x) = some (f x) := rfl
end Go.PL
end
section
open Go Go.PG Go.PL
set_option linter.all false
namespace Go.PL
theorem loop_gen {τ ε ρ σ : Type} (n : Nat) (s : Nat → τ) (s0 : τ) (e : ε) {f : τ → Option (τ ⊕ (ε ⊕ ρ))} {A : ε → Option σ} {B : ρ → Option σ} (hn : n ≤ 1000000000) (h0 : s 0 = s0)
    (hs : ∀ i : Nat, i < n → f (s i) = some (.inl (s (i + 1)))) (he : f (s n) = some (.inr (.inl e))) :
    P.bind (P.iter K f s0) (P.either A B) = A e := by
  have := iter_run (f := f) s (.inl e) n 0 K (by unfold K; omega) (fun j hj => by simp only [Nat.zero_add]; exact hs j hj) (by simpa using he)
  rw [h0] at this
  rw [this, bind_some, either_inl]
theorem sle_not (a b : ByteArray) : P.sle a b = decide (¬ ltS b a) := by
  rw [Bool.eq_iff_iff, sle_iff, decide_eq_true_eq]
  constructor
  · rintro (h | rfl)
    · exact ltS_asymm h
    · exact ltS_irrefl _
  · intro h
    rcases ltS_tri a b with q | q | q
    · exact .inl q
    · exact .inr q
    · exact absurd q h
theorem refK_nil {α κ : Type} {lt : κ → κ → Prop} [DecidableRel lt] {key : α → κ} (x : α) : refK lt key [] x = (false, []) := by
  unfold refK; rw [if_pos (by simp)]
theorem refK_len {α κ : Type} {lt : κ → κ → Prop} [DecidableRel lt] {key : α → κ} (t : List α) (x : α) : (refK lt key t x).2.length ≤ t.length + t.length + 1 := by
  unfold refK
  split
  · show t.length ≤ _; omega
  · exact insK_length t x
theorem app_eq {α : Type} (a b : List α) : P.app a b = a ++ b := rfl
theorem up_take {α κ : Type} {lt : κ → κ → Prop} {key : α → κ} {l : List α} (h : Up lt key l) {i : Nat} (hi : i < l.length) (d : α) : Up lt key (l.take i ++ [l.getD i d]) := by
  rw [← take_getD' hi d]; exact h.sublist (List.take_sublist _ _)
theorem ref_set (s : Sta) (n : ByteArray) (v : List At) (h : FewT s) (hv : v.length ≤ 1000000) : ref08_Set K (s, n, v) = some (setT s n v) := by
  unfold ref08_Set setT
  try dsimp only
  rw [ref_may8 s h, bind_some, cond_ndec]
  by_cases m : MayS s
  · rw [if_pos m, if_pos m]
    by_cases hd : s.1 = true
    · rw [if_pos hd, cond_of hd]
      obtain ⟨e1, e2⟩ := m.2.2 hd
      congr 1
      exact Prod.ext hd (Prod.ext e1 e2)
    · rw [if_neg hd, cond_of' hd, ref_norm v (by omega), bind_some]
      have h1 := h.1
      have hu : Up ltS (fun b : Bv => b.1) s.2.1 := m.1.1
      have hs1 : s.1 = false := by simpa using hd
      rw [loop_gen s.2.1.length (fun i => ((refK ltS (fun b : Bv => b.1) (s.2.1.take i) (n, norm v)).1, (i : Int), false, (refK ltS (fun b : Bv => b.1) (s.2.1.take i) (n, norm v)).2, s.2.2)) _ ((refK ltS (fun b : Bv => b.1) s.2.1 (n, norm v)).1, false, (refK ltS (fun b : Bv => b.1) s.2.1 (n, norm v)).2, s.2.2) (by omega) ?_ ?_ ?_]
      · have hE := refK_end (lt := ltS) (key := fun b : Bv => b.1) ordS (l := s.2.1) (n, norm v)
        have hL := refK_len (lt := ltS) (key := fun b : Bv => b.1) s.2.1 (n, norm v)
        try dsimp only
        rw [show insB s.2.1 (n, norm v) = _ from hE.symm, hs1]
        generalize refK ltS (fun b : Bv => b.1) s.2.1 (n, norm v) = R at hL
        obtain ⟨b, t⟩ := R
        cases b
        · rw [not_false', cond_true, room_one _ _ 40 (by simp only at hL ⊢; omega) (by omega), cond_true]; rfl
        · rw [not_true, cond_false]; rfl
      · show ((refK ltS (fun b : Bv => b.1) [] (n, norm v)).1, _, _, (refK ltS (fun b : Bv => b.1) [] (n, norm v)).2, _) = _
        rw [refK_nil]; rfl
      · intro i hi
        have hui := up_take hu hi dB
        have e1 := take_getD' hi dB
        obtain ⟨t1, t2, t3⟩ := refK_step ordS hui (n, norm v)
        have htl : (s.2.1.take i).length ≤ 100000 := by rw [List.length_take]; omega
        have hL := refK_len (lt := ltS) (key := fun b : Bv => b.1) (s.2.1.take i) (n, norm v)
        try dsimp only
        rw [ilt_len hi, cond_true, inb_len hi, e1, wrap_succ (by omega)]
        simp only [cond_true, get_dB, sle_not, seq_dec]
        by_cases all : ∀ a, a ∈ s.2.1.take i → ltS a.1 n
        · have r0 : refK ltS (fun b : Bv => b.1) (s.2.1.take i) (n, norm v) = (false, s.2.1.take i) := by unfold refK; rw [if_pos all]
          rw [r0]
          simp only [not_false', cond_true]
          rw [cond_dec]
          by_cases hy : ltS (s.2.1.getD i dB).1 n
          · rw [if_neg (fun z => z hy), cond_ndec, if_neg (fun e : (s.2.1.getD i dB).1 = n => ltS_irrefl n (by rw [e] at hy; exact hy)), room_one _ _ 40 (by omega) (by omega), cond_true, (t1 hy).2, app_eq]
          · rw [if_pos hy, room_one _ _ 40 (by omega) (by omega), cond_true, cond_ndec, app_eq, app_eq]
            by_cases e : (s.2.1.getD i dB).1 = n
            · rw [if_pos e, (t2 hy all).1 e]
            · rw [if_neg e, room_one _ _ 40 (by simp; omega) (by omega), cond_true, (t2 hy all).2 e]
        · have r0 : refK ltS (fun b : Bv => b.1) (s.2.1.take i) (n, norm v) = (true, insB (s.2.1.take i) (n, norm v)) := by unfold refK; rw [if_neg all]
          rw [r0] at hL ⊢
          simp only [not_true, cond_false]
          rw [cond_ndec, if_neg (t3 all).1, room_one _ _ 40 (by simp only at hL ⊢; omega) (by omega), cond_true, (t3 all).2, app_eq]
      · try dsimp only
        rw [ilt_end, cond_false, List.take_length]
  · rw [if_neg m, if_neg m]
theorem ref_put (s : Sta) (x : At) (o : Sp) (h : FewT s) (ho : FewS o) : ref08_Put K (s, x, o) = some (putT s x o) := by
  unfold ref08_Put putT
  try dsimp only
  rw [ref_may8 s h, bind_some, cond_ndec]
  by_cases m : MayS s
  · rw [if_pos m, if_pos m, ref_place, bind_some, cond_ndec]
    by_cases mp : PlaceA x
    · rw [if_pos mp, if_pos mp, ref_may7 o ho, bind_some, cond_ndec]
      by_cases mo : MayO o
      · rw [if_pos mo, if_pos mo]
        by_cases hd : s.1 = true
        · rw [if_pos hd, cond_of hd]
          obtain ⟨e1, e2⟩ := m.2.2 hd
          congr 1
          exact Prod.ext hd (Prod.ext e1 e2)
        · rw [if_neg hd, cond_of' hd]
          have h1 := h.2.2.1
          have hu : Up ltA (fun b : Lc => b.1) s.2.2 := m.2.1.1
          have hs1 : s.1 = false := by simpa using hd
          rw [loop_gen s.2.2.length (fun i => ((refK ltA (fun b : Lc => b.1) (s.2.2.take i) (x, o)).1, (i : Int), false, s.2.1, (refK ltA (fun b : Lc => b.1) (s.2.2.take i) (x, o)).2)) _ ((refK ltA (fun b : Lc => b.1) s.2.2 (x, o)).1, false, s.2.1, (refK ltA (fun b : Lc => b.1) s.2.2 (x, o)).2) (by omega) ?_ ?_ ?_]
          · have hE := refK_end (lt := ltA) (key := fun b : Lc => b.1) ordA (l := s.2.2) (x, o)
            have hL := refK_len (lt := ltA) (key := fun b : Lc => b.1) s.2.2 (x, o)
            try dsimp only
            rw [show insL s.2.2 (x, o) = _ from hE.symm, hs1]
            generalize refK ltA (fun b : Lc => b.1) s.2.2 (x, o) = R at hL
            obtain ⟨b, t⟩ := R
            cases b
            · rw [not_false', cond_true, room_one _ _ 64 (by simp only at hL ⊢; omega) (by omega), cond_true]; rfl
            · rw [not_true, cond_false]; rfl
          · show ((refK ltA (fun b : Lc => b.1) [] (x, o)).1, _, _, _, (refK ltA (fun b : Lc => b.1) [] (x, o)).2) = _
            rw [refK_nil]; rfl
          · intro i hi
            have hui := up_take hu hi dL
            have e1 := take_getD' hi dL
            obtain ⟨t1, t2, t3⟩ := refK_step ordA hui (x, o)
            have htl : (s.2.2.take i).length ≤ 100000 := by rw [List.length_take]; omega
            have hL := refK_len (lt := ltA) (key := fun b : Lc => b.1) (s.2.2.take i) (x, o)
            try dsimp only
            rw [ilt_len hi, cond_true, inb_len hi, e1, wrap_succ (by omega)]
            simp only [cond_true, get_dL, eqA_dec, ref_less, bind_some]
            by_cases all : ∀ a, a ∈ s.2.2.take i → ltA a.1 x
            · have r0 : refK ltA (fun b : Lc => b.1) (s.2.2.take i) (x, o) = (false, s.2.2.take i) := by unfold refK; rw [if_pos all]
              rw [r0]
              simp only [not_false', cond_true]
              rw [ref_less, bind_some, cond_ndec]
              by_cases hy : ltA (s.2.2.getD i dL).1 x
              · rw [if_pos hy, cond_ndec, if_neg (fun e : (s.2.2.getD i dL).1 = x => ltA_irrefl x (by rw [e] at hy; exact hy)), room_one _ _ 64 (by omega) (by omega), cond_true, (t1 hy).2, app_eq]
              · rw [if_neg hy, room_one _ _ 64 (by omega) (by omega), cond_true, cond_ndec, app_eq, app_eq]
                by_cases e : (s.2.2.getD i dL).1 = x
                · rw [if_pos e, (t2 hy all).1 e]
                · rw [if_neg e, room_one _ _ 64 (by simp; omega) (by omega), cond_true, (t2 hy all).2 e]
            · have r0 : refK ltA (fun b : Lc => b.1) (s.2.2.take i) (x, o) = (true, insL (s.2.2.take i) (x, o)) := by unfold refK; rw [if_neg all]
              rw [r0] at hL ⊢
              simp only [not_true, cond_false]
              rw [cond_ndec, if_neg (t3 all).1, room_one _ _ 64 (by simp only at hL ⊢; omega) (by omega), cond_true, (t3 all).2, app_eq]
          · try dsimp only
            rw [ilt_end, cond_false, List.take_length]
      · rw [if_neg mo, if_neg mo]
    · rw [if_neg mp, if_neg mp]
  · rw [if_neg m, if_neg m]
theorem st_loc (s : Sta) (x : At) (h : FewT s) : state_Loc K (s, x) = some (locR s.2.2 x) := by
  unfold state_Loc
  try dsimp only
  have h3 := h.2.2.1
  rw [loop_find s.2.2 dL (fun b => b.1 = x) (fun b => (b.2, true)) (by omega) ?_ ?_]
  · unfold locR getL
    cases s.2.2.find? fun b => decide (b.1 = x) with
    | none => rfl
    | some b => rfl
  · intro i hi
    have hm := getD_mem hi dL
    try dsimp only
    rw [ilt_len hi, cond_true, inb_len hi, cond_true, get_dL, eqA_dec, cond_dec, wrap_succ (by omega)]
    by_cases q : (s.2.2.getD i dL).1 = x
    · rw [if_pos q, if_pos q, show P.ile (0 : Int) (i : Int) = true from ile_iff.2 (by omega), cond_true, cond_true, ob_copy _ (h.2.2.2 _ hm), bind_some, map_some']
    · rw [if_neg q, if_neg q]
  · try dsimp only
    rw [ilt_end]; rfl
end Go.PL
end
section
open Go Go.PG Go.PL
set_option linter.all false
namespace Go.PL
def renV (i : Int) (b : Bv) : Bv := (b.1, norm (b.2.map (renA i)))
def renL (i : Int) (b : Lc) : Lc := (b.1, rename b.2 i)
def base (i : Int) (l : List Lc) : List Lc := (l.filter fun b => decide (b.1 ≠ (4, i))).map (renL i)
def oldO (i : Int) (l : List Lc) (o : Lc) : Sp := match getL l (5, i) with
  | some p => join (rename o.2 i) (rename p.2 i)
  | none => rename o.2 i
def ageL (i : Int) (l : List Lc) : List Lc := match getL l (4, i) with
  | none => base i l
  | some o => insL (base i l) ((5, i), oldO i l o)
theorem getL_no {l : List Lc} {x : At} (h : ∀ b, b ∈ l → b.1 ≠ x) : getL l x = none := by
  unfold getL
  rw [List.find?_eq_none]
  intro b hb q
  exact h b hb (of_decide_eq_true q)
theorem mem_base {i : Int} {l : List Lc} {x : Lc} : x ∈ base i l ↔ ∃ b, b ∈ l ∧ b.1 ≠ (4, i) ∧ x = renL i b := by
  unfold base
  simp only [List.mem_map, List.mem_filter, decide_eq_true_eq]
  constructor
  · rintro ⟨b, ⟨h1, h2⟩, rfl⟩; exact ⟨b, h1, h2, rfl⟩
  · rintro ⟨b, h1, h2, rfl⟩; exact ⟨b, ⟨h1, h2⟩, rfl⟩
theorem base_app (i : Int) (t : List Lc) (y : Lc) : base i (t ++ [y]) = if y.1 = (4, i) then base i t else base i t ++ [renL i y] := by
  unfold base
  rw [List.filter_append, List.map_append]
  by_cases q : y.1 = (4, i)
  · rw [if_pos q, List.filter_cons_of_neg (by simp [q])]; simp
  · rw [if_neg q, List.filter_cons_of_pos (by simp [q])]; simp
theorem base_up {i : Int} {l : List Lc} (h : RisesL l) : RisesL (base i l) := by
  unfold base
  rw [RisesL, List.pairwise_map]
  exact h.filter _
theorem ageL_up {i : Int} {l : List Lc} (h : RisesL l) : RisesL (ageL i l) := by
  unfold ageL
  split
  · exact base_up h
  · exact insK_up ordA (base_up h) _
theorem base_ok {i : Int} {l : List Lc} (h : ∀ b, b ∈ l → PlaceA b.1 ∧ MayO b.2) : ∀ b, b ∈ base i l → PlaceA b.1 ∧ MayO b.2 := fun x hx => by
  obtain ⟨b, h1, _, rfl⟩ := mem_base.1 hx
  exact ⟨(h b h1).1, rename_may (h b h1).2 i⟩
theorem old_may {i : Int} {l : List Lc} (h : ∀ b, b ∈ l → PlaceA b.1 ∧ MayO b.2) {o : Lc} (ho : o ∈ l) : MayO (oldO i l o) := by
  unfold oldO
  split
  · rename_i p hp
    exact join_may (rename_may (h o ho).2 i) (rename_may (h p (getL_mem hp).1).2 i)
  · exact rename_may (h o ho).2 i
theorem ageL_ok {i : Int} (hi : 0 ≤ i) {l : List Lc} (h : ∀ b, b ∈ l → PlaceA b.1 ∧ MayO b.2) : ∀ b, b ∈ ageL i l → PlaceA b.1 ∧ MayO b.2 := fun x hx => by
  unfold ageL at hx
  split at hx
  · exact base_ok h x hx
  · rename_i o ho
    rcases (insK_mem ordA).1 hx with rfl | ⟨h1, _⟩
    · exact ⟨⟨.inr rfl, hi⟩, old_may h (getL_mem ho).1⟩
    · exact base_ok h x h1
theorem base_len (i : Int) (l : List Lc) : (base i l).length ≤ l.length := by
  unfold base; rw [List.length_map]; exact List.length_filter_le _ _
theorem old_bd {i : Int} {l : List Lc} {k : Nat} (h : ∀ b, b ∈ l → Bd k b.2) {o : Lc} (ho : o ∈ l) : Bd (k + k) (oldO i l o) := by
  unfold oldO
  split
  · rename_i p hp
    exact join_bd (rename_bd (h o ho) i) (rename_bd (h p (getL_mem hp).1) i)
  · have := rename_bd (h o ho) i
    exact ⟨by have := this.1; omega, fun f hf => by have := this.2.1 f hf; omega, by have := this.2.2; omega⟩
theorem ageL_bd {i : Int} {l : List Lc} {k : Nat} (hl : l.length ≤ k) (h : ∀ b, b ∈ l → Bd k b.2) : (ageL i l).length ≤ k + k + 1 ∧ ∀ b, b ∈ ageL i l → Bd (k + k) b.2 := by
  have hb := base_len i l
  have hB : ∀ b, b ∈ base i l → Bd (k + k) b.2 := fun x hx => by
    obtain ⟨b, h1, _, rfl⟩ := mem_base.1 hx
    have := rename_bd (h b h1) i
    exact ⟨by have := this.1; show (rename b.2 i).1.length ≤ _; omega, fun f hf => by have := this.2.1 f hf; omega, by have := this.2.2; show (rename b.2 i).2.length ≤ _; omega⟩
  unfold ageL
  split
  · exact ⟨by omega, hB⟩
  · rename_i o ho
    have hle : (insL (base i l) ((5, i), oldO i l o)).length ≤ _ := insK_length (lt := ltA) (key := fun b : Lc => b.1) (base i l) ((5, i), oldO i l o)
    refine ⟨by omega, fun x hx => ?_⟩
    rcases (insK_mem ordA).1 hx with rfl | ⟨h1, _⟩
    · exact old_bd h (getL_mem ho).1
    · exact hB x h1
end Go.PL
end
section
open Go Go.PG Go.PL
set_option linter.all false
namespace Go.PL
def ageT (s : Sta) (i : Int) : Sta := if i < 0 then (false, [], []) else if MayS s then (if s.1 = true then (true, [], []) else (false, s.2.1.map (renV i), ageL i s.2.2)) else (false, [], [])
theorem mayS_mk {V : List Bv} {L : List Lc} (h1 : RisesB V ∧ ∀ b, b ∈ V → b.2 = norm b.2) (h2 : RisesL L ∧ ∀ l, l ∈ L → PlaceA l.1 ∧ MayO l.2) : MayS (false, V, L) := ⟨h1, h2, fun z => by cases z⟩
theorem setT_ok {V : List Bv} {L : List Lc} (h : MayS (false, V, L)) (n : ByteArray) (v : List At) : setT (false, V, L) n v = (false, insB V (n, norm v), L) := by
  unfold setT; rw [if_pos h, if_neg (by simp)]
theorem putT_ok {V : List Bv} {L : List Lc} (h : MayS (false, V, L)) {x : At} (hx : PlaceA x) {o : Sp} (ho : MayO o) : putT (false, V, L) x o = (false, V, insL L (x, o)) := by
  unfold putT; rw [if_pos h, if_pos hx, if_pos ho, if_neg (by simp)]
theorem renV_ok {i : Int} {V : List Bv} (h : RisesB V) : RisesB (V.map (renV i)) ∧ ∀ b, b ∈ V.map (renV i) → b.2 = norm b.2 := by
  refine ⟨?_, fun b hb => ?_⟩
  · rw [RisesB, List.pairwise_map]; exact h
  · obtain ⟨c, _, rfl⟩ := List.mem_map.1 hb
    exact (norm_norm _).symm
theorem renV_len {i : Int} {V : List Bv} {k : Nat} (h : ∀ b, b ∈ V → b.2.length ≤ k) : ∀ b, b ∈ V.map (renV i) → b.2.length ≤ k := fun b hb => by
  obtain ⟨c, hc, rfl⟩ := List.mem_map.1 hb
  have := norm_length (c.2.map (renA i))
  rw [List.length_map] at this
  exact Nat.le_trans this (h c hc)
theorem ageT_ok {s : Sta} {i : Int} (hi : ¬ i < 0) (m : MayS s) (hd : ¬ s.1 = true) : ageT s i = (false, s.2.1.map (renV i), ageL i s.2.2) := by
  unfold ageT; rw [if_neg hi, if_pos m, if_neg hd]
theorem age_may {s : Sta} {i : Int} (hi : ¬ i < 0) (m : MayS s) : MayS (ageT s i) := by
  by_cases hd : s.1 = true
  · unfold ageT; rw [if_neg hi, if_pos m, if_pos hd]
    exact ⟨⟨List.Pairwise.nil, by simp⟩, ⟨List.Pairwise.nil, by simp⟩, fun _ => ⟨rfl, rfl⟩⟩
  · rw [ageT_ok hi m hd]
    exact mayS_mk (renV_ok m.1.1) ⟨ageL_up m.2.1.1, ageL_ok (by omega) m.2.1.2⟩
theorem age_bd {s : Sta} {i : Int} {k : Nat} (h : BdT k s) : BdT (k + k + 1) (ageT s i) := by
  have e : BdT (k + k + 1) (false, [], []) := ⟨by simp, by simp, by simp, by simp⟩
  have e' : BdT (k + k + 1) (true, [], []) := ⟨by simp, by simp, by simp, by simp⟩
  unfold ageT
  split
  · exact e
  · split
    · split
      · exact e'
      · obtain ⟨h1, h2, h3, h4⟩ := h
        obtain ⟨b1, b2⟩ := ageL_bd (i := i) h3 h4
        exact ⟨by simp only [List.length_map]; omega, fun b hb => by have := renV_len (i := i) h2 b hb; omega, b1, fun l hl => by
          have := b2 l hl
          exact ⟨by have := this.1; omega, fun f hf => by have := this.2.1 f hf; omega, by have := this.2.2; omega⟩⟩
    · exact e
end Go.PL
end
section
open Go Go.PG Go.PL
set_option linter.all false
namespace Go.PL
theorem ref_age (s : Sta) (i : Int) {k : Nat} (h : BdT k s) (hk : k ≤ 1000) : ref09_Age K (s, i) = some (ageT s i) := by
  unfold ref09_Age ageT
  try dsimp only
  have hf := bd_fewT h (by omega)
  rw [ilt_dec, cond_dec]
  by_cases hi : i < 0
  · rw [if_pos hi, if_pos hi]
  rw [if_neg hi, if_neg hi, ref_may8 s hf, bind_some, cond_ndec]
  by_cases m : MayS s
  case neg => rw [if_neg m, if_neg m]
  rw [if_pos m, if_pos m]
  by_cases hd : s.1 = true
  · rw [if_pos hd, cond_of hd]
    obtain ⟨e1, e2⟩ := m.2.2 hd
    congr 1
    exact Prod.ext hd (Prod.ext e1 e2)
  rw [if_neg hd, cond_of' hd]
  obtain ⟨h1, h2, h3, h4⟩ := h
  have hV := renV_ok (i := i) m.1.1
  have hVl : ∀ b, b ∈ s.2.1.map (renV i) → b.2.length ≤ k := renV_len h2
  rw [loop_st s.2.1.length (fun j => (false, (s.2.1.take j).map (renV i), [])) _ (false, s.2.1.map (renV i), []) (by omega) (by simp) (by simp) ?_ ?_]
  · try dsimp only
    rw [loop_st s.2.2.length (fun j => (false, s.2.1.map (renV i), base i (s.2.2.take j))) _ (false, s.2.1.map (renV i), base i s.2.2) (by omega) (by simp [base]) (by simp) ?_ ?_]
    · try dsimp only
      have hbu := base_up (i := i) m.2.1.1
      have hbo := base_ok (i := i) m.2.1.2
      have hbl := base_len i s.2.2
      have hmay : MayS (false, s.2.1.map (renV i), base i s.2.2) := mayS_mk hV ⟨hbu, hbo⟩
      have hbb : ∀ b, b ∈ base i s.2.2 → Bd k b.2 := fun x hx => by
        obtain ⟨b, g1, _, rfl⟩ := mem_base.1 hx
        exact rename_bd (h4 b g1) i
      have hfew : FewT (false, s.2.1.map (renV i), base i s.2.2) := ⟨by simp only [List.length_map]; omega, fun b hb => by have := hVl b hb; omega, by simp only; omega, fun l hl => bd_few (hbb l hl) (by omega)⟩
      have hpl : PlaceA (5, i) := ⟨.inr rfl, by show 0 ≤ i; omega⟩
      rw [ref_loc s _ (by omega), bind_some, ref_loc s _ (by omega), bind_some]
      unfold ageL oldO locR
      cases g4 : getL s.2.2 (4, i) with
      | none =>
        cases g5 : getL s.2.2 (5, i) <;> rfl
      | some o =>
        have ho := (getL_mem g4).1
        have hr := rename_bd (h4 o ho) i
        have hrm := rename_may (m.2.1.2 o ho).2 i
        cases g5 : getL s.2.2 (5, i) with
        | none =>
          try dsimp only
          simp only [cond_true, cond_false, not_false']
          rw [ref_rename7 _ i (bd_few (h4 o ho) (by omega)), bind_some, ref_put _ _ _ hfew (bd_few hr (by omega)), bind_some, putT_ok hmay hpl hrm]
        | some p =>
          have hp := (getL_mem g5).1
          have hr2 := rename_bd (h4 p hp) i
          have hrm2 := rename_may (m.2.1.2 p hp).2 i
          try dsimp only
          simp only [cond_true, cond_false, not_true]
          rw [ref_rename7 _ i (bd_few (h4 o ho) (by omega)), bind_some, ref_rename7 _ i (bd_few (h4 p hp) (by omega)), bind_some, ref_join _ _ (bd_few hr (by omega)) (bd_few hr2 (by omega)), bind_some, ref_put _ _ _ hfew (bd_few (join_bd hr hr2) (by omega)), bind_some, putT_ok hmay hpl (join_may hrm hrm2)]
    · intro j hj
      have hm := getD_mem hj dL
      have hbd := h4 _ hm
      have hbl := base_len i (s.2.2.take j)
      have htl : (s.2.2.take j).length ≤ k := by rw [List.length_take]; omega
      try dsimp only
      rw [ilt_len hj, cond_true, inb_len hj, cond_true, get_dL, cond_true, cond_true, wrap_succ (by omega), show P.and (P.ieq (s.2.2.getD j dL).1.1 4) (P.ieq (s.2.2.getD j dL).1.2 i) = decide ((s.2.2.getD j dL).1 = (4, i)) from eqA_dec _ (4, i), cond_ndec, take_getD' hj dL, base_app]
      by_cases q : (s.2.2.getD j dL).1 = (4, i)
      · rw [if_pos q, if_pos q]
      · rw [if_neg q, if_neg q, ref_rename7 _ i (bd_few hbd (by omega)), bind_some, room_one _ _ 64 (by omega) (by omega), cond_true, app_eq]
        rfl
    · try dsimp only
      rw [ilt_end]; rfl
  · intro j hj
    have hm := getD_mem hj dB
    have hlen := h2 _ hm
    try dsimp only
    rw [ilt_len hj, cond_true, inb_len hj, cond_true, cond_true, get_dB, ref_rename _ i (by omega), bind_some, wrap_succ (by omega), room_one _ _ 40 (by simp only [List.length_map, List.length_take]; omega) (by omega), cond_true, app_eq, take_getD' hj dB, List.map_append]
    rfl
  · try dsimp only
    rw [ilt_end]; rfl
def allocT (s : Sta) (x : ByteArray) (i : Int) (o : Sp) : Sta := if i < 0 then (false, [], []) else if MayS s then (if MayO o then (if s.1 = true then (true, [], []) else (false, insB (s.2.1.map (renV i)) (x, [(4, i)]), insL (ageL i s.2.2) ((4, i), rename o i))) else (false, [], [])) else (false, [], [])
theorem norm_rec {i : Int} (hi : ¬ i < 0) : norm [((4 : Int), i)] = [((4 : Int), i)] := (norm_one.2 (place_right ⟨.inl rfl, by show 0 ≤ i; omega⟩)).symm
theorem alloc_mid {s : Sta} {i : Int} {o : Sp} (hi : ¬ i < 0) (m : MayS s) (mo : MayO o) (hd : ¬ s.1 = true) :
    putT (ageT s i) (4, i) (rename o i) = (false, s.2.1.map (renV i), insL (ageL i s.2.2) ((4, i), rename o i)) ∧ MayS (false, s.2.1.map (renV i), insL (ageL i s.2.2) ((4, i), rename o i)) ∧
    ∀ x, setT (putT (ageT s i) (4, i) (rename o i)) x [(4, i)] = allocT s x i o := by
  have hp : PlaceA (4, i) := ⟨.inl rfl, by show 0 ≤ i; omega⟩
  have hmay := age_may hi m
  rw [ageT_ok hi m hd] at hmay ⊢
  have hrm := rename_may mo i
  have e1 := putT_ok hmay hp hrm
  have m2 : MayS (false, s.2.1.map (renV i), insL (ageL i s.2.2) ((4, i), rename o i)) := mayS_mk hmay.1 ⟨insK_up ordA hmay.2.1.1 _, fun l hl => by
    rcases (insK_mem ordA).1 hl with rfl | ⟨g, _⟩
    · exact ⟨hp, hrm⟩
    · exact hmay.2.1.2 l g⟩
  refine ⟨e1, m2, fun x => ?_⟩
  rw [e1, setT_ok m2, norm_rec hi]
  unfold allocT
  rw [if_neg hi, if_pos m, if_pos mo, if_neg hd]
theorem alloc_few {s : Sta} {i : Int} {o : Sp} {k : Nat} (h : BdT k s) (ho : Bd k o) (hk : k ≤ 1000) : FewT (false, s.2.1.map (renV i), insL (ageL i s.2.2) ((4, i), rename o i)) := by
  obtain ⟨h1, h2, h3, h4⟩ := h
  obtain ⟨b1, b2⟩ := ageL_bd (i := i) h3 h4
  have hle : (insL (ageL i s.2.2) ((4, i), rename o i)).length ≤ _ := insK_length (lt := ltA) (key := fun b : Lc => b.1) (ageL i s.2.2) ((4, i), rename o i)
  exact ⟨by simp only [List.length_map]; omega, fun b hb => by have := renV_len (i := i) h2 b hb; omega, by simp only; omega, fun l hl => by
    rcases (insK_mem ordA).1 hl with rfl | ⟨g, _⟩
    · exact bd_few (rename_bd ho i) (by omega)
    · exact bd_few (b2 l g) (by omega)⟩
theorem ref_alloc (s : Sta) (x : ByteArray) (i : Int) (o : Sp) {k : Nat} (h : BdT k s) (ho : Bd k o) (hk : k ≤ 1000) : ref09_Alloc K (s, x, i, o) = some (allocT s x i o) := by
  unfold ref09_Alloc
  try dsimp only
  have hf := bd_fewT h (by omega)
  have hof := bd_few ho (by omega)
  have haf := bd_fewT (age_bd (i := i) h) (by omega)
  rw [ilt_dec, cond_dec, ref_may8 s hf, bind_some, cond_ndec, ref_may7 o hof, bind_some, cond_ndec]
  by_cases hi : i < 0
  · rw [if_pos hi]; unfold allocT; rw [if_pos hi]
  rw [if_neg hi]
  by_cases m : MayS s
  case neg => rw [if_neg m]; unfold allocT; rw [if_neg hi, if_neg m]
  rw [if_pos m]
  by_cases mo : MayO o
  case neg => rw [if_neg mo]; unfold allocT; rw [if_neg hi, if_pos m, if_neg mo]
  rw [if_pos mo]
  by_cases hd : s.1 = true
  · rw [cond_of hd]
    unfold allocT
    rw [if_neg hi, if_pos m, if_pos mo, if_pos hd]
    obtain ⟨e1, e2⟩ := m.2.2 hd
    congr 1
    exact Prod.ext hd (Prod.ext e1 e2)
  obtain ⟨a1, a2, a3⟩ := alloc_mid hi m mo hd
  rw [cond_of' hd, ref_age s i h hk, bind_some, ref_rename7 o i hof, bind_some, ref_put _ _ _ haf (bd_few (rename_bd ho i) (by omega)), bind_some, ref_set _ _ _ (by rw [a1]; exact alloc_few h ho hk) (by simp), bind_some, a3]
end Go.PL
end
section
open Go Go.PG Go.PL
set_option linter.all false
namespace Go.PL
def u9 : Sta := (false, [(⟨#[120]⟩, [(5, 0)])], [((5, 0), ([(⟨#[112]⟩, true, [(2, 0)])], [(0, 0)]))])
end Go.PL
end
section
open Go Go.PG Go.PL
set_option linter.all false
namespace Go.PL
end Go.PL
end
section
open Go Go.PG Go.PL
set_option linter.all false
namespace Go.PL
def gl (l : List Lc) (x : At) : Option Sp := (getL l x).map fun b => b.2
theorem gl_some {l : List Lc} {x : At} {o : Sp} : gl l x = some o → (x, o) ∈ l := by
  intro h
  unfold gl at h
  cases g : getL l x with
  | none => rw [g] at h; cases h
  | some b =>
    rw [g] at h
    injection h with h
    obtain ⟨h1, h2⟩ := getL_mem g
    rw [← h, ← h2]; exact h1
theorem gl_mem {l : List Lc} (h : RisesL l) {x : At} {o : Sp} (hm : (x, o) ∈ l) : gl l x = some o := by
  unfold gl
  rw [getL_of_mem h hm]; rfl
theorem gl_none {l : List Lc} {x : At} : gl l x = none ↔ ∀ b, b ∈ l → b.1 ≠ x := by
  constructor
  · intro h b hb
    unfold gl at h
    cases g : getL l x with
    | none => exact getL_none g hb
    | some b => rw [g] at h; cases h
  · intro h; unfold gl; rw [getL_no h]; rfl
theorem gl_locR (l : List Lc) (x : At) : locR l x = match gl l x with
    | some o => (o, true)
    | none => (([], []), false) := by
  unfold locR gl
  cases getL l x <;> rfl
theorem gl_ins {l : List Lc} (h : RisesL l) (y : Lc) (x : At) : gl (insL l y) x = if x = y.1 then some y.2 else gl l x := by
  have hu := insK_up (lt := ltA) (key := fun b : Lc => b.1) ordA h y
  by_cases q : x = y.1
  · rw [if_pos q, q]
    exact gl_mem hu ((insK_mem ordA).2 (.inl rfl))
  · rw [if_neg q]
    cases g : gl l x with
    | none =>
      rw [gl_none] at g ⊢
      intro b hb
      rcases (insK_mem ordA).1 hb with rfl | ⟨h1, _⟩
      · exact fun z => q z.symm
      · exact g b h1
    | some o => exact gl_mem hu ((insK_mem ordA).2 (.inr ⟨gl_some g, q⟩))
theorem gl_base {i : Int} {l : List Lc} (h : RisesL l) (x : At) : gl (base i l) x = if x = (4, i) then none else (gl l x).map fun o => rename o i := by
  by_cases q : x = (4, i)
  · rw [if_pos q, gl_none]
    intro b hb
    obtain ⟨c, _, h2, rfl⟩ := mem_base.1 hb
    rw [q]; exact h2
  · rw [if_neg q]
    cases g : gl l x with
    | none =>
      rw [gl_none] at g
      show _ = none
      rw [gl_none]
      intro b hb
      obtain ⟨c, h1, _, rfl⟩ := mem_base.1 hb
      exact g c h1
    | some o => exact gl_mem (base_up h) (mem_base.2 ⟨(x, o), gl_some g, q, rfl⟩)
def comb (i : Int) : Option Sp → Option Sp → Option Sp
  | some o, some p => some (join (rename o i) (rename p i))
  | some o, none => some (rename o i)
  | none, q => q.map fun o => rename o i
theorem gl_age {i : Int} {l : List Lc} (h : RisesL l) (x : At) : gl (ageL i l) x = if x = (4, i) then none else if x = (5, i) then comb i (gl l (4, i)) (gl l (5, i)) else (gl l x).map fun o => rename o i := by
  have n54 : ((5 : Int), i) ≠ (4, i) := by simp
  unfold ageL oldO
  have e4 : gl l (4, i) = (getL l (4, i)).map fun b => b.2 := rfl
  have e5 : gl l (5, i) = (getL l (5, i)).map fun b => b.2 := rfl
  cases g4 : getL l (4, i) with
  | none =>
    rw [g4] at e4
    show gl (base i l) x = _
    rw [gl_base h]
    by_cases q : x = (4, i)
    · rw [if_pos q, if_pos q]
    · rw [if_neg q, if_neg q]
      by_cases q5 : x = (5, i)
      · rw [if_pos q5, e4, q5]; rfl
      · rw [if_neg q5]
  | some o =>
    rw [g4] at e4
    have n4 : ((4 : Int), i) ≠ (5, i) := by simp
    have fin : ∀ Z : Sp, comb i (gl l (4, i)) (gl l (5, i)) = some Z → gl (insL (base i l) ((5, i), Z)) x = if x = (4, i) then none else if x = (5, i) then comb i (gl l (4, i)) (gl l (5, i)) else (gl l x).map fun o => rename o i := by
      intro Z hZ
      rw [gl_ins (base_up h), gl_base h]
      by_cases q : x = (4, i)
      · rw [if_pos q, if_pos q, if_neg (by rw [q]; exact n4)]
      · rw [if_neg q, if_neg q]
        by_cases q5 : x = (5, i)
        · rw [if_pos q5, if_pos q5, hZ]
        · rw [if_neg q5, if_neg q5]
    cases g5 : getL l (5, i) with
    | none => rw [g5] at e5; exact fin _ (by rw [e4, e5]; rfl)
    | some p => rw [g5] at e5; exact fin _ (by rw [e4, e5]; rfl)
theorem gl_ok {l : List Lc} (h : ∀ b, b ∈ l → PlaceA b.1 ∧ MayO b.2) {x : At} {o : Sp} (g : gl l x = some o) : MayO o := (h _ (gl_some g)).2
end Go.PL
end
section
open Go Go.PG Go.PL
set_option linter.all false
namespace Go.PL
def SpeakL (x : At) (l : Lc) : Prop := l.1 = x ∨ x ∈ l.2.2 ∨ ∃ f, f ∈ l.2.1 ∧ x ∈ f.2.2
instance (x : At) (l : Lc) : Decidable (SpeakL x l) := by unfold SpeakL; exact inferInstance
def Speaks (s : Sta) (x : At) : Prop := (∃ b, b ∈ s.2.1 ∧ x ∈ b.2) ∨ ∃ l, l ∈ s.2.2 ∧ SpeakL x l
instance (s : Sta) (x : At) : Decidable (Speaks s x) := by unfold Speaks; exact inferInstance
end Go.PL
end
section
open Go Go.PG Go.PL
set_option linter.all false
namespace Go.PL
end Go.PL
end
section
open Go Go.PG Go.PL
set_option linter.all false
namespace Go.PL
def gv (l : List Bv) (n : ByteArray) : Option (List At) := (getV l n).map fun b => b.2
theorem var_gv (l : List Bv) (n : ByteArray) : var l n = (gv l n).getD [(0, 0)] := by
  unfold var gv
  cases getV l n <;> rfl
theorem gv_some {l : List Bv} {n : ByteArray} {v : List At} (h : gv l n = some v) : (n, v) ∈ l := by
  unfold gv at h
  cases g : getV l n with
  | none => rw [g] at h; cases h
  | some b =>
    rw [g] at h
    injection h with h
    obtain ⟨h1, h2⟩ := getV_mem g
    rw [← h, ← h2]; exact h1
theorem gv_mem {l : List Bv} (h : RisesB l) {n : ByteArray} {v : List At} (hm : (n, v) ∈ l) : gv l n = some v := by
  unfold gv
  rw [getV_of_mem h hm]; rfl
theorem gv_none {l : List Bv} {n : ByteArray} : gv l n = none ↔ ∀ b, b ∈ l → b.1 ≠ n := by
  constructor
  · intro h b hb
    unfold gv at h
    cases g : getV l n with
    | none => exact getV_none g hb
    | some b => rw [g] at h; cases h
  · intro h
    unfold gv getV
    rw [List.find?_eq_none.2 fun b hb q => h b hb (of_decide_eq_true q)]; rfl
theorem gv_ins {l : List Bv} (h : RisesB l) (y : Bv) (n : ByteArray) : gv (insB l y) n = if n = y.1 then some y.2 else gv l n := by
  have hu := insK_up (lt := ltS) (key := fun b : Bv => b.1) ordS h y
  by_cases q : n = y.1
  · rw [if_pos q, q]
    exact gv_mem hu ((insK_mem ordS).2 (.inl rfl))
  · rw [if_neg q]
    cases g : gv l n with
    | none =>
      rw [gv_none] at g ⊢
      intro b hb
      rcases (insK_mem ordS).1 hb with rfl | ⟨h1, _⟩
      · exact fun z => q z.symm
      · exact g b h1
    | some o => exact gv_mem hu ((insK_mem ordS).2 (.inr ⟨gv_some g, q⟩))
def both (a b : List Bv) (n : ByteArray) : List At := norm (var a n ++ var b n)
end Go.PL
end
section
open Go Go.PG Go.PL
set_option linter.all false
namespace Go.PL
end Go.PL
end
section
open Go Go.PG Go.PL
set_option linter.all false
namespace Go.PL
end Go.PL
end
section
open Go Go.PG Go.PL
set_option linter.all false
namespace Go.PL
theorem canon_null : Canon [((0 : Int), (0 : Int))] := canon_iff.1 (norm_one.2 (by unfold RightA; omega))
theorem var_canon {l : List Bv} (h : ∀ v, v ∈ l → v.2 = norm v.2) (n : ByteArray) : Canon (var l n) := by
  unfold var
  split
  · rename_i b hb; exact canon_iff.1 (h b (getV_mem hb).1)
  · exact canon_null
theorem ren_null (i : Int) : norm ([((0 : Int), (0 : Int))].map (renA i)) = [((0 : Int), (0 : Int))] := by
  have : [((0 : Int), (0 : Int))].map (renA i) = [((0 : Int), (0 : Int))] := by simp [renA]
  rw [this]
  exact (canon_iff.2 canon_null).symm
theorem gv_ren {V : List Bv} (h : RisesB V) (i : Int) (n : ByteArray) : gv (V.map (renV i)) n = (gv V n).map fun v => norm (v.map (renA i)) := by
  have hu : RisesB (V.map (renV i)) := by rw [RisesB, List.pairwise_map]; exact h
  cases g : gv V n with
  | none =>
    rw [gv_none] at g
    show _ = none
    rw [gv_none]
    intro b hb
    obtain ⟨c, h1, rfl⟩ := List.mem_map.1 hb
    exact g c h1
  | some v => exact gv_mem hu (List.mem_map.2 ⟨(n, v), gv_some g, rfl⟩)
theorem var_ren {V : List Bv} (h : RisesB V) (i : Int) (n : ByteArray) : var (V.map (renV i)) n = norm ((var V n).map (renA i)) := by
  rw [var_gv, var_gv, gv_ren h]
  cases gv V n with
  | none => exact (ren_null i).symm
  | some v => rfl
end Go.PL
end
section
open Go Go.PG Go.PL
set_option linter.all false
namespace Go.PL
theorem alloc_ok {s : Sta} {x : ByteArray} {i : Int} {o : Sp} (hi : ¬ i < 0) (m : MayS s) (mo : MayO o) (hd : ¬ s.1 = true) : allocT s x i o = (false, insB (s.2.1.map (renV i)) (x, [(4, i)]), insL (ageL i s.2.2) ((4, i), rename o i)) ∧ MayS (allocT s x i o) := by
  have eal : allocT s x i o = (false, insB (s.2.1.map (renV i)) (x, [(4, i)]), insL (ageL i s.2.2) ((4, i), rename o i)) := by
    unfold allocT; rw [if_neg hi, if_pos m, if_pos mo, if_neg hd]
  refine ⟨eal, ?_⟩
  obtain ⟨a1, a2, a3⟩ := alloc_mid hi m mo hd
  have hV := renV_ok (i := i) m.1.1
  rw [eal]
  refine mayS_mk ⟨insK_up ordS hV.1 _, fun b hb => ?_⟩ a2.2.1
  rcases (insK_mem ordS).1 hb with rfl | ⟨g, _⟩
  · exact (norm_rec hi).symm
  · exact hV.2 b g
end Go.PL
end
section
open Go Go.PG Go.PL
set_option linter.all false
namespace Go.PL
def nx (T : List Lc) (n : ByteArray) (x : At) : List At := if PlaceA x ∧ (locR T x).2 = true ∧ su (locR T x).1.1 n = false then (locR T x).1.2 else []
inductive Rch (T : List Lc) (n : ByteArray) (v : List At) : At → Prop
  | base {y : At} : y ∈ v → RightA y → Rch T n v y
  | step {x y : At} : Rch T n v x → y ∈ nx T n x → RightA y → Rch T n v y
theorem Rch.right {T : List Lc} {n : ByteArray} {v : List At} {y : At} (h : Rch T n v y) : RightA y := by cases h <;> assumption
def allA (T : List Lc) (v : List At) : List At := v ++ T.flatMap fun l => l.2.2
theorem nx_mem {T : List Lc} {n : ByteArray} {x y : At} (h : y ∈ nx T n x) : ∃ l, l ∈ T ∧ l.1 = x ∧ y ∈ l.2.2 ∧ locR T x = (l.2, true) := by
  unfold nx at h
  split at h
  · rename_i q
    unfold locR at q h ⊢
    cases g : getL T x with
    | none => rw [g] at h; simp at h
    | some b =>
      rw [g] at h
      obtain ⟨h1, h2⟩ := getL_mem g
      exact ⟨b, h1, h2, h, rfl⟩
  · cases h
theorem Rch.all {T : List Lc} {n : ByteArray} {v : List At} {y : At} (h : Rch T n v y) : y ∈ allA T v := by
  unfold allA
  cases h with
  | base h1 _ => exact List.mem_append_left _ h1
  | step _ h2 _ =>
    obtain ⟨l, h1, _, h3, _⟩ := nx_mem h2
    exact List.mem_append_right _ (List.mem_flatMap.2 ⟨l, h1, h3⟩)
end Go.PL
end
section
open Go Go.PG Go.PL
set_option linter.all false
namespace Go.PL
end Go.PL
end
section
open Go Go.PG Go.PL
set_option linter.all false
namespace Go.PL
def hp (T : List Lc) (n : ByteArray) (x : At) : Bool := decide (PlaceA x) && pr (locR T x).1.1 n
end Go.PL
end
section
open Go Go.PG Go.PL
set_option linter.unusedVariables false
namespace Go.PL.Sto
abbrev Val := Int × Int
abbrev Prp := ByteArray × Val
abbrev Ob := List Prp × Val
def Right (n : Nat) (v : Val) : Prop := (v.1 = 0 ∧ v.2 = 0) ∨ (v.1 = 1 ∧ (v.2 = 0 ∨ v.2 = 1)) ∨ v.1 = 2 ∨ (v.1 = 3 ∧ 0 ≤ v.2) ∨ (v.1 = 4 ∧ 0 ≤ v.2 ∧ v.2 < n)
instance (n : Nat) (v : Val) : Decidable (Right n v) := by unfold Right; exact inferInstance
theorem ref_right (k : Nat) (s : List Ob) (v : Val) : ref19_Right k (s, v) = some (decide (Right s.length v)) := by
  obtain ⟨a, b⟩ := v
  unfold ref19_Right
  dsimp only
  simp only [cond_eq, ieq_iff, ile_iff, ilt_iff, len_eq]
  repeat' split
  all_goals
    rw [Option.some.injEq, Bool.eq_iff_iff, decide_eq_true_eq]
    simp only [Right, ieq_iff, ile_iff, ilt_iff, true_iff, Bool.false_eq_true, false_iff]
    omega
theorem st_right (k : Nat) (s : List Ob) (v : Val) : store_Right k (s, v) = some (decide (Right s.length v)) := by
  obtain ⟨a, b⟩ := v
  unfold store_Right
  dsimp only
  simp only [cond_eq, ieq_iff, ile_iff, ilt_iff, len_eq]
  repeat' split
  all_goals
    rw [Option.some.injEq, Bool.eq_iff_iff, decide_eq_true_eq]
    simp only [Right, ieq_iff, ile_iff, ilt_iff, true_iff, Bool.false_eq_true, false_iff]
    omega
abbrev dP : Prp := (⟨#[]⟩, 0, 0)
abbrev dO : Ob := ([], 0, 0)
def PropOk (n : Nat) (l : List Prp) (i : Nat) : Prop := Right n (l.getD i dP).2 ∧ (0 < i → ltS (l.getD (i - 1) dP).1 (l.getD i dP).1)
instance (n : Nat) (l : List Prp) (i : Nat) : Decidable (PropOk n l i) := by unfold PropOk; exact inferInstance
def ProtoOk (i : Nat) (v : Val) : Prop := (v.1 = 0 ∧ v.2 = 0) ∨ (v.1 = 4 ∧ 0 ≤ v.2 ∧ v.2 < i)
instance (i : Nat) (v : Val) : Decidable (ProtoOk i v) := by unfold ProtoOk; exact inferInstance
def ObOk (n i : Nat) (o : Ob) : Prop := (∀ k, k < o.1.length → PropOk n o.1 k) ∧ ProtoOk i o.2
instance (n i : Nat) (o : Ob) : Decidable (ObOk n i o) := by unfold ObOk; exact inferInstance
def MayS (s : List Ob) : Prop := ∀ i, i < s.length → ObOk s.length i (s.getD i dO)
instance (s : List Ob) : Decidable (MayS s) := by unfold MayS; exact inferInstance
def Fits (s : List Ob) : Prop := s.length < 9223372036854775808 ∧ ∀ i, i < s.length → (s.getD i dO).1.length < 9223372036854775808
theorem ref_may (s : List Ob) (hf : Fits s) : ref19_May K s = some (decide (MayS s)) := by
  unfold ref19_May
  rw [iter_all (n := s.length) (e := .inl ()) (r := .inr false) (fun i => ObOk s.length i (s.getD i dO)) K ?_ ?_ (by have := hf.1; unfold K; omega)]
  · rw [bind_some]
    have : (∀ i, i < s.length → ObOk s.length i (s.getD i dO)) ↔ MayS s := Iff.rfl
    by_cases h : MayS s
    · rw [if_pos (this.2 h)]; simp [h, either_inl]
    · rw [if_neg (fun q => h (this.1 q))]; simp [h, either_inr]
  · intro i hi
    have hl := hf.2 i hi
    simp only [cond_eq, ilt_iff, inb_iff, len_eq, get_nat]
    rw [if_pos (by omega), if_pos (by omega)]
    generalize ho : s.getD i dO = o at *
    rw [iter_all (n := o.1.length) (e := .inl ()) (r := .inr (.inr (.inr false))) (fun j => PropOk s.length o.1 j) K ?_ ?_ (by unfold K; omega)]
    · rw [bind_some]
      have e1 : (∀ j, j < o.1.length → PropOk s.length o.1 j) ∧ ProtoOk i o.2 ↔ ObOk s.length i o := Iff.rfl
      by_cases h : ∀ j, j < o.1.length → PropOk s.length o.1 j
      · rw [if_pos h, either_inl]
        simp only [not_iff, and_iff, ieq_iff, ile_iff]
        rw [wrap_succ (by have := hf.1; omega)]
        have e2 : ObOk s.length i o ↔ ProtoOk i o.2 := ⟨fun q => q.2, fun q => ⟨h, q⟩⟩
        simp only [e2, ProtoOk]
        repeat' split
        all_goals first
          | rfl
          | (exfalso; omega)
      · rw [if_neg h, either_inr]
        have : ¬ ObOk s.length i o := fun q => h q.1
        simp [this]
    · intro j hj
      rw [if_pos (by omega), if_pos ⟨by omega, by omega⟩, ref_right, bind_some]
      simp only [not_iff, decide_eq_true_eq, get_nat]
      rw [wrap_succ (by omega)]
      by_cases h : Right s.length (o.1.getD j dP).2
      · rw [if_neg (not_not_intro h)]
        by_cases h0 : 0 < j
        · rw [if_pos (by omega), wrap_pred h0 (by omega), if_pos ⟨by omega, by omega⟩, if_pos ⟨by omega, by omega⟩]
          simp only [get_nat, slt_iff]
          by_cases h2 : ltS (o.1.getD (j - 1) dP).1 (o.1.getD j dP).1
          · rw [if_neg (not_not_intro h2), if_pos (show PropOk s.length o.1 j from ⟨h, fun _ => h2⟩)]
          · rw [if_pos h2, if_neg (show ¬ PropOk s.length o.1 j from fun q => h2 (q.2 h0))]
        · rw [if_neg (by omega), if_pos (show PropOk s.length o.1 j from ⟨h, fun q => absurd q h0⟩)]
      · rw [if_pos h, if_neg (show ¬ PropOk s.length o.1 j from fun q => h q.1)]
    · rw [if_neg (by omega)]
  · simp only [cond_eq, ilt_iff, len_eq]
    rw [if_neg (by omega)]
theorem st_may (s : List Ob) (hf : Fits s) : store_May K s = some (decide (MayS s)) := by
  unfold store_May
  rw [iter_all (n := s.length) (e := .inl ()) (r := .inr false) (fun i => ObOk s.length i (s.getD i dO)) K ?_ ?_ (by have := hf.1; unfold K; omega)]
  · rw [bind_some]
    have : (∀ i, i < s.length → ObOk s.length i (s.getD i dO)) ↔ MayS s := Iff.rfl
    by_cases h : MayS s
    · rw [if_pos (this.2 h)]; simp [h, either_inl]
    · rw [if_neg (fun q => h (this.1 q))]; simp [h, either_inr]
  · intro i hi
    have hl := hf.2 i hi
    simp only [cond_eq, ilt_iff, inb_iff, len_eq, get_nat]
    rw [if_pos (by omega), if_pos (by omega)]
    generalize ho : s.getD i dO = o at *
    rw [iter_all (n := o.1.length) (e := .inl ()) (r := .inr (.inr (.inr false))) (fun j => PropOk s.length o.1 j) K ?_ ?_ (by unfold K; omega)]
    · rw [bind_some]
      have e1 : (∀ j, j < o.1.length → PropOk s.length o.1 j) ∧ ProtoOk i o.2 ↔ ObOk s.length i o := Iff.rfl
      by_cases h : ∀ j, j < o.1.length → PropOk s.length o.1 j
      · rw [if_pos h, either_inl]
        simp only [not_iff, and_iff, ieq_iff, ile_iff]
        rw [wrap_succ (by have := hf.1; omega)]
        have e2 : ObOk s.length i o ↔ ProtoOk i o.2 := ⟨fun q => q.2, fun q => ⟨h, q⟩⟩
        simp only [e2, ProtoOk]
        repeat' split
        all_goals first
          | rfl
          | (exfalso; omega)
      · rw [if_neg h, either_inr]
        have : ¬ ObOk s.length i o := fun q => h q.1
        simp [this]
    · intro j hj
      rw [if_pos (by omega), if_pos ⟨by omega, by omega⟩, st_right, bind_some]
      simp only [not_iff, decide_eq_true_eq, get_nat]
      rw [wrap_succ (by omega)]
      by_cases h : Right s.length (o.1.getD j dP).2
      · rw [if_neg (not_not_intro h)]
        by_cases h0 : 0 < j
        · rw [if_pos (by omega), wrap_pred h0 (by omega), if_pos ⟨by omega, by omega⟩]
          simp only [get_nat, slt_iff]
          by_cases h2 : ltS (o.1.getD (j - 1) dP).1 (o.1.getD j dP).1
          · rw [if_neg (not_not_intro h2), if_pos (show PropOk s.length o.1 j from ⟨h, fun _ => h2⟩)]
          · rw [if_pos h2, if_neg (show ¬ PropOk s.length o.1 j from fun q => h2 (q.2 h0))]
        · rw [if_neg (by omega), if_pos (show PropOk s.length o.1 j from ⟨h, fun q => absurd q h0⟩)]
      · rw [if_pos h, if_neg (show ¬ PropOk s.length o.1 j from fun q => h q.1)]
    · rw [if_neg (by omega)]
  · simp only [cond_eq, ilt_iff, len_eq]
    rw [if_neg (by omega)]
def ownM (l : List Prp) (name : ByteArray) : Option Val := (List.range l.length).findSome? fun i => if (l.getD i dP).1 = name then some (l.getD i dP).2 else none
def tell (o : Option Val) : Val × Bool := match o with
  | some w => (w, true)
  | none => ((0, 0), false)
theorem ref_own (o : Ob) (name : ByteArray) (hl : o.1.length < 9223372036854775808) : ref19_own K (o, name) = some (tell (ownM o.1 name)) := by
  unfold ref19_own
  dsimp only
  rw [iter_find0 (n := o.1.length) (e := .inl ()) (fun i => if (o.1.getD i dP).1 = name then some (Sum.inr ((o.1.getD i dP).2, true)) else none) K ?_ ?_ (by unfold K; omega)]
  · rw [bind_some]
    have : (List.range o.1.length).findSome? (fun i => if (o.1.getD i dP).1 = name then some (Sum.inr (α := PUnit) ((o.1.getD i dP).2, true)) else none) = (ownM o.1 name).map fun w => Sum.inr (w, true) := by
      unfold ownM
      rw [List.map_findSome?]
      congr 1
      funext i
      simp only [Function.comp]
      split <;> rfl
    rw [this]
    cases ownM o.1 name <;> rfl
  · intro i hi
    simp only [cond_eq, ilt_iff, inb_iff, len_eq, get_nat, seq_iff]
    rw [if_pos (by omega), if_pos ⟨by omega, by omega⟩, wrap_succ (by omega)]
    by_cases h : (o.1.getD i dP).1 = name
    · rw [if_pos h, if_pos ⟨by omega, by omega⟩, if_pos h]
    · rw [if_neg h, if_neg h]
  · simp only [cond_eq, ilt_iff, len_eq]
    rw [if_neg (by omega)]
def Srt (l : List Prp) : Prop := ∀ i, 0 < i → i < l.length → ltS (l.getD (i - 1) dP).1 (l.getD i dP).1
theorem Srt.lt {l : List Prp} (h : Srt l) : ∀ (j i : Nat), i < j → j < l.length → ltS (l.getD i dP).1 (l.getD j dP).1 := by
  intro j
  induction j with
  | zero => intro i hi; omega
  | succ j ih =>
    intro i hi hj
    have h1 := h (j + 1) (by omega) hj
    rw [Nat.add_sub_cancel] at h1
    rcases Nat.lt_or_ge i j with q | q
    · exact ltS_trans (ih i q (by omega)) h1
    · have : i = j := by omega
      subst this; exact h1
theorem exists_z (l : List Prp) (name : ByteArray) (hs : Srt l) : ∃ z, z ≤ l.length ∧ (∀ t, t < z → ltS (l.getD t dP).1 name) ∧ (∀ t, z ≤ t → t < l.length → ¬ ltS (l.getD t dP).1 name) := by
  have : ∀ n, n ≤ l.length → ∃ z, z ≤ n ∧ (∀ t, t < z → ltS (l.getD t dP).1 name) ∧ (∀ t, z ≤ t → t < n → ¬ ltS (l.getD t dP).1 name) := by
    intro n
    induction n with
    | zero => intro _; exact ⟨0, Nat.le_refl _, fun t ht => by omega, fun t _ ht => by omega⟩
    | succ n ih =>
      intro hn
      obtain ⟨z, h1, h2, h3⟩ := ih (by omega)
      by_cases q : z = n
      · by_cases p : ltS (l.getD n dP).1 name
        · refine ⟨n + 1, Nat.le_refl _, fun t ht => ?_, fun t h4 h5 => by omega⟩
          rcases Nat.lt_or_ge t n with w | w
          · exact h2 t (by omega)
          · have : t = n := by omega
            subst this; exact p
        · refine ⟨n, by omega, fun t ht => h2 t (by omega), fun t h4 h5 => ?_⟩
          have : t = n := by omega
          subst this; exact p
      · refine ⟨z, by omega, h2, fun t h4 h5 => ?_⟩
        rcases Nat.lt_or_ge t n with w | w
        · exact h3 t h4 w
        · have : t = n := by omega
          subst this
          exact fun p => h3 z (Nat.le_refl _) (by omega) (ltS_trans (hs.lt t z (by omega) (by omega)) p)
  exact this l.length (Nat.le_refl _)
open Classical in
noncomputable def zOf (l : List Prp) (name : ByteArray) : Nat := if hs : Srt l then Classical.choose (exists_z l name hs) else 0
theorem zOf_spec {l : List Prp} {name : ByteArray} (hs : Srt l) : zOf l name ≤ l.length ∧ (∀ t, t < zOf l name → ltS (l.getD t dP).1 name) ∧ (∀ t, zOf l name ≤ t → t < l.length → ¬ ltS (l.getD t dP).1 name) := by
  unfold zOf
  rw [dif_pos hs]
  exact Classical.choose_spec (exists_z l name hs)
def lookM (s : List Ob) (name : ByteArray) : Nat → Val → Option Val
  | 0, _ => none
  | m + 1, v => if v.1 = 4 ∧ Right s.length v then match ownM (s.getD v.2.toNat dO).1 name with
      | some w => some w
      | none => lookM s name m (s.getD v.2.toNat dO).2
    else none
def getM (s : List Ob) (v : Val) (name : ByteArray) : Option Val := if MayS s then lookM s name (s.length + 1) v else none
theorem MayS.srt {s : List Ob} (h : MayS s) {i : Nat} (hi : i < s.length) : Srt (s.getD i dO).1 := fun k h0 hk => ((h i hi).1 k hk).2 h0
theorem right4 {n : Nat} {v : Val} (h4 : v.1 = 4) (h : Right n v) : 0 ≤ v.2 ∧ v.2 < n := by
  unfold Right at h; omega
theorem look_loop (s : List Ob) (name : ByteArray) (hf : Fits s) (hm : MayS s) {f : Val → Option (Val ⊕ (PUnit ⊕ (Val × Bool)))} (h1 : ∀ v : Val, ¬ (v.1 = 4 ∧ Right s.length v) → f v = some (.inr (.inl ())))
    (h2 : ∀ v : Val, v.1 = 4 → Right s.length v → f v = some (match ownM (s.getD v.2.toNat dO).1 name with
      | some w => .inr (.inr (w, true))
      | none => .inl (s.getD v.2.toNat dO).2)) (v : Val) : P.iter K f v = some (match lookM s name (s.length + 1) v with
      | some w => .inr (w, true)
      | none => .inl ()) := by
  have key : ∀ (m k : Nat) (v : Val), (v.1 = 4 → Right s.length v → v.2 < m) → m < k → P.iter k f v = some (match lookM s name (m + 1) v with
      | some w => .inr (w, true)
      | none => .inl ()) := by
    intro m
    induction m with
    | zero =>
      intro k v hv hk
      have hno : ¬ (v.1 = 4 ∧ Right s.length v) := fun ⟨a, b⟩ => by have := hv a b; have := right4 a b; omega
      rw [iter_done (by omega) (h1 v hno), lookM, if_neg hno]
    | succ m ih =>
      intro k v hv hk
      by_cases h : v.1 = 4 ∧ Right s.length v
      · have hr := right4 h.1 h.2
        have hlt : v.2.toNat < s.length := by omega
        have hp := (hm v.2.toNat hlt).2
        have hstep := h2 v h.1 h.2
        rw [lookM, if_pos h]
        cases q : ownM (s.getD v.2.toNat dO).1 name with
        | some w =>
          rw [q] at hstep
          rw [iter_done (by omega) hstep]
        | none =>
          rw [q] at hstep
          rw [iter_step (by omega) hstep]
          refine ih (k - 1) _ (fun a b => ?_) (by omega)
          have := hv h.1 h.2
          unfold ProtoOk at hp
          omega
      · rw [iter_done (by omega) (h1 v h), lookM, if_neg h]
  exact key s.length K v (fun a b => (right4 a b).2) (by have := hf.1; unfold K; omega)
theorem ref_get (s : List Ob) (v : Val) (name : ByteArray) (hf : Fits s) : ref19_Get K (s, v, name) = some (tell (getM s v name)) := by
  unfold ref19_Get
  dsimp only
  rw [ref_may s hf, bind_some]
  unfold getM
  by_cases hm : MayS s
  · rw [if_pos hm]
    simp only [hm, decide_true]
    rw [look_loop s name hf hm ?_ ?_]
    · rw [cond_eq, if_neg (by simp [P.not]), bind_some]
      cases lookM s name (s.length + 1) v <;> rfl
    · intro v hv
      simp only [cond_eq, ieq_iff]
      by_cases h4 : v.1 = 4
      · rw [if_pos h4, ref_right, bind_some, if_neg (by simpa using fun q => hv ⟨h4, q⟩)]
      · rw [if_neg h4]
    · intro v h4 hr
      have hb := right4 h4 hr
      have hlt : v.2.toNat < s.length := by omega
      have e : (v.2.toNat : Int) = v.2 := by omega
      have hl := hf.2 _ hlt
      simp only [cond_eq, ieq_iff, inb_iff, len_eq]
      rw [if_pos h4, ref_right, bind_some, if_pos (by simpa using hr), if_pos ⟨by omega, by omega⟩, if_pos ⟨by omega, by omega⟩]
      have hg : P.get s v.2 (([], 0, 0) : Ob) = s.getD v.2.toNat dO := rfl
      rw [hg, ref_own _ _ hl, bind_some]
      cases ownM (s.getD v.2.toNat dO).1 name <;> rfl
  · rw [if_neg hm]
    simp only [hm, decide_false]
    rfl
end Go.PL.Sto
end
section
open Go Go.PG Go.PL
set_option linter.unusedVariables false
set_option linter.unusedSimpArgs false
namespace Go.PL.Sto
noncomputable def zBk (l : List Prp) (nm : ByteArray) : Nat := if zOf l nm < l.length ∧ (l.getD (zOf l nm) dP).1 = nm then zOf l nm + 1 else zOf l nm
noncomputable def withM (l : List Prp) (nm : ByteArray) (w : Val) : List Prp := l.take (zOf l nm) ++ (nm, w) :: l.drop (zBk l nm)
theorem take_snoc {α : Type} {l : List α} {i : Nat} (h : i < l.length) (d : α) : l.take (i + 1) = l.take i ++ [l.getD i d] := by
  rw [List.take_succ_eq_append_getElem h]; simp [List.getD_eq_getElem?_getD, h]
theorem zBk_bd (l : List Prp) (nm : ByteArray) : zOf l nm ≤ zBk l nm ∧ zBk l nm ≤ zOf l nm + 1 := by
  unfold zBk; split <;> omega
theorem ref_with (l : List Prp) (nm : ByteArray) (w : Val) (hs : Srt l) (hl : l.length ≤ 1000000000) : ref19_With K (l, nm, w) = some (withM l nm w) := by
  obtain ⟨q1, q2, q3⟩ := zOf_spec (name := nm) hs
  obtain ⟨b1, b2⟩ := zBk_bd l nm
  have hgt : ∀ t, zOf l nm < t → t < l.length → ltS nm (l.getD t dP).1 := by
    intro t h1 h2
    have h3 := q3 _ (Nat.le_refl _) (by omega : zOf l nm < l.length)
    have h4 := hs.lt t _ h1 h2
    rcases ltS_tri (l.getD (zOf l nm) dP).1 nm with h | h | h
    · exact absurd h h3
    · rw [← h]; exact h4
    · exact ltS_trans h h4
  unfold ref19_With
  dsimp only
  let S : Nat → List Prp × Bool × Int := fun i => (if i ≤ zOf l nm then l.take i else l.take (zOf l nm) ++ (nm, w) :: (l.take i).drop (zBk l nm), decide (zOf l nm < i), (i : Int))
  have h0 : (([], false, 0) : List Prp × Bool × Int) = S 0 := by simp [S]
  rw [h0]
  rw [iter_run S (Sum.inl (if l.length ≤ zOf l nm then l else withM l nm w, decide (zOf l nm < l.length))) l.length 0 K (by unfold K; omega) ?_ ?_]
  · rw [bind_some, either_inl]
    simp only [cond_eq, not_iff, decide_eq_true_eq, room_nat, len_eq]
    by_cases h : l.length ≤ zOf l nm
    · have hz : zOf l nm = l.length := by omega
      have hb : zBk l nm = l.length := by unfold zBk; rw [if_neg (by omega)]; exact hz
      rw [if_pos (by omega), if_pos h, if_pos (by simp; omega)]
      simp [withM, P.app, hz, hb]
    · rw [if_neg (by omega), if_neg h]
  · intro i hi
    simp only [Nat.zero_add]
    have hw : P.wrap .i64 (P.add (i : Int) 1) = ((i + 1 : Nat) : Int) := wrap_succ (by omega)
    have len1 : (l.take i).length ≤ 1000000000 := by rw [List.length_take]; omega
    rcases Nat.lt_trichotomy i (zOf l nm) with h | h | h
    · have h5 := q2 i h
      have h6 : ¬ (ltS nm (l.getD i dP).1 ∨ nm = (l.getD i dP).1) := by
        rintro (z | z)
        · exact ltS_asymm h5 z
        · rw [← z] at h5; exact ltS_irrefl _ h5
      have h7 : ¬ (l.getD i dP).1 = nm := fun z => h6 (.inr z.symm)
      have e1 : S i = (l.take i, false, (i : Int)) := by simp only [S]; rw [if_pos (by omega)]; simp; omega
      have e2 : S (i + 1) = (l.take i ++ [l.getD i dP], false, ((i + 1 : Nat) : Int)) := by simp only [S]; rw [if_pos (by omega), take_snoc hi dP]; simp; omega
      rw [e1, e2]
      simp only [cond_eq, ilt_iff, inb_iff, room_nat, len_eq, not_iff, hw, sle_iff, seq_iff, get_nat, P.app]
      rw [if_pos (by omega), if_pos (by simp), if_pos (by omega), if_neg h6, if_pos (by omega), if_pos h7, if_pos (by omega), if_pos (by simp; omega)]
    · subst h
      have h5 := q3 _ (Nat.le_refl _) hi
      have h6 : ltS nm (l.getD (zOf l nm) dP).1 ∨ nm = (l.getD (zOf l nm) dP).1 := by
        rcases ltS_tri (l.getD (zOf l nm) dP).1 nm with h | h | h
        · exact absurd h h5
        · exact .inr h.symm
        · exact .inl h
      have e1 : S (zOf l nm) = (l.take (zOf l nm), false, (zOf l nm : Int)) := by simp only [S]; rw [if_pos (by omega)]; simp
      rw [e1]
      simp only [cond_eq, ilt_iff, inb_iff, room_nat, len_eq, not_iff, hw, sle_iff, seq_iff, get_nat, P.app]
      rw [if_pos (by omega), if_pos (by simp), if_pos (by omega), if_pos h6, if_pos (by simp; omega), if_pos (by omega)]
      by_cases h7 : (l.getD (zOf l nm) dP).1 = nm
      · have hb : zBk l nm = zOf l nm + 1 := by unfold zBk; rw [if_pos ⟨hi, h7⟩]
        have e2 : S (zOf l nm + 1) = (l.take (zOf l nm) ++ [(nm, w)], true, ((zOf l nm + 1 : Nat) : Int)) := by simp only [S]; rw [if_neg (by omega), hb]; simp
        rw [if_neg (not_not_intro h7), e2]
      · have hb : zBk l nm = zOf l nm := by unfold zBk; rw [if_neg (fun q => h7 q.2)]
        have e2 : S (zOf l nm + 1) = ((l.take (zOf l nm) ++ [(nm, w)]) ++ [l.getD (zOf l nm) dP], true, ((zOf l nm + 1 : Nat) : Int)) := by simp only [S]; rw [if_neg (by omega), hb, take_snoc hi dP]; simp [List.drop_append, Nat.min_eq_left q1]
        rw [if_pos h7, if_pos (by omega), if_pos (by simp; omega), e2]
    · have h5 := hgt i h hi
      have h7 : ¬ (l.getD i dP).1 = nm := fun z => by rw [z] at h5; exact ltS_irrefl _ h5
      have e1 : S i = (l.take (zOf l nm) ++ (nm, w) :: (l.take i).drop (zBk l nm), true, (i : Int)) := by simp only [S]; rw [if_neg (by omega)]; simp; omega
      have e2 : S (i + 1) = ((l.take (zOf l nm) ++ (nm, w) :: (l.take i).drop (zBk l nm)) ++ [l.getD i dP], true, ((i + 1 : Nat) : Int)) := by
        simp only [S]; rw [if_neg (by omega), take_snoc hi dP, List.drop_append_of_le_length (by rw [List.length_take]; omega)]; simp; omega
      rw [e1, e2]
      simp only [cond_eq, ilt_iff, inb_iff, room_nat, len_eq, not_iff, hw, sle_iff, seq_iff, get_nat, P.app]
      rw [if_pos (by omega), if_neg (by simp), if_pos (by omega), if_pos h7, if_pos (by omega), if_pos (by simp; omega)]
  · simp only [Nat.zero_add, S, cond_eq, ilt_iff, len_eq]
    rw [if_neg (by omega)]
    have e : l.take l.length = l := List.take_length
    rw [e]
    rfl
theorem range_findSome {α β : Type} (d : α) (g : α → Option β) : ∀ l : List α, (List.range l.length).findSome? (fun i => g (l.getD i d)) = l.findSome? g
  | [] => rfl
  | a :: l => by
    rw [List.length_cons, List.range_succ_eq_map, List.findSome?_cons, List.findSome?_cons]
    have : (List.map Nat.succ (List.range l.length)).findSome? (fun i => g ((a :: l).getD i d)) = l.findSome? g := by
      rw [List.findSome?_map, ← range_findSome d g l]
      rfl
    rw [this]
    rfl
theorem own_find (l : List Prp) (nm : ByteArray) : ownM l nm = l.findSome? fun p => if p.1 = nm then some p.2 else none :=
  range_findSome dP (fun p : Prp => if p.1 = nm then some p.2 else none) l
theorem srt_iff {l : List Prp} : Srt l ↔ l.Pairwise fun p q => ltS p.1 q.1 := by
  rw [List.pairwise_iff_getElem]
  constructor
  · intro h i j hi hj hij
    have := h.lt j i hij hj
    simpa [List.getD_eq_getElem?_getD, hi, hj] using this
  · intro h i h0 hi
    have := h (i - 1) i (by omega) hi (by omega)
    have h1 : i - 1 < l.length := by omega
    simpa [List.getD_eq_getElem?_getD, hi, h1] using this
theorem getD_mem {α : Type} {l : List α} {i : Nat} (h : i < l.length) (d : α) : l.getD i d ∈ l := by
  rw [List.getD_eq_getElem?_getD, List.getElem?_eq_getElem h]; exact List.getElem_mem h
theorem mem_getD {α : Type} {l : List α} {a : α} (h : a ∈ l) (d : α) : ∃ i, i < l.length ∧ l.getD i d = a := by
  obtain ⟨i, hi, e⟩ := List.getElem_of_mem h
  exact ⟨i, hi, by rw [List.getD_eq_getElem?_getD, List.getElem?_eq_getElem hi]; exact e⟩
theorem props_iff {n : Nat} {l : List Prp} : (∀ k, k < l.length → PropOk n l k) ↔ (∀ p, p ∈ l → Right n p.2) ∧ Srt l := by
  constructor
  · intro h
    refine ⟨fun p hp => ?_, fun i h0 hi => (h i hi).2 h0⟩
    obtain ⟨i, hi, e⟩ := mem_getD hp dP
    rw [← e]
    exact (h i hi).1
  · rintro ⟨h1, h2⟩ k hk
    exact ⟨h1 _ (getD_mem hk dP), fun h0 => h2 k h0 hk⟩
theorem split_z (l : List Prp) (nm : ByteArray) : l = l.take (zOf l nm) ++ l.drop (zOf l nm) := (List.take_append_drop _ _).symm
theorem take_lt {l : List Prp} {nm : ByteArray} (hs : Srt l) : ∀ p, p ∈ l.take (zOf l nm) → ltS p.1 nm := by
  intro p hp
  obtain ⟨q1, q2, q3⟩ := zOf_spec (name := nm) hs
  obtain ⟨i, hi, e⟩ := mem_getD hp dP
  rw [List.length_take] at hi
  have := q2 i (by omega)
  rw [← e]
  simpa [List.getD_eq_getElem?_getD, List.getElem?_take, show i < zOf l nm by omega] using this
theorem drop_lt {l : List Prp} {nm : ByteArray} (hs : Srt l) : ∀ p, p ∈ l.drop (zBk l nm) → ltS nm p.1 := by
  intro p hp
  obtain ⟨q1, q2, q3⟩ := zOf_spec (name := nm) hs
  obtain ⟨i, hi, e⟩ := mem_getD hp dP
  rw [List.length_drop] at hi
  have e1 : (l.drop (zBk l nm)).getD i dP = l.getD (zBk l nm + i) dP := by simp [List.getD_eq_getElem?_getD, List.getElem?_drop]
  rw [← e, e1]
  by_cases h : zOf l nm < l.length ∧ (l.getD (zOf l nm) dP).1 = nm
  · have hb : zBk l nm = zOf l nm + 1 := by unfold zBk; rw [if_pos h]
    have := hs.lt (zBk l nm + i) (zOf l nm) (by omega) (by omega)
    rw [h.2] at this
    exact this
  · have hb : zBk l nm = zOf l nm := by unfold zBk; rw [if_neg h]
    have h3 := q3 (zBk l nm + i) (by omega) (by omega)
    rcases ltS_tri (l.getD (zBk l nm + i) dP).1 nm with z | z | z
    · exact absurd z h3
    · exfalso
      rcases Nat.eq_zero_or_pos i with w | w
      · subst w
        rw [hb, Nat.add_zero] at z
        exact h ⟨by omega, z⟩
      · have h4 := hs.lt (zBk l nm + i) (zOf l nm) (by omega) (by omega)
        rw [z] at h4
        exact q3 _ (Nat.le_refl _) (by omega) h4
    · exact z
theorem with_srt {l : List Prp} (nm : ByteArray) (w : Val) (hs : Srt l) : Srt (withM l nm w) := by
  have hp := srt_iff.1 hs
  rw [srt_iff]
  unfold withM
  rw [List.pairwise_append, List.pairwise_cons]
  refine ⟨hp.sublist (List.take_sublist _ _), ⟨fun q hq => drop_lt hs q hq, hp.sublist (List.drop_sublist _ _)⟩, fun p h1 q h2 => ?_⟩
  have h3 := take_lt hs p h1
  rcases List.mem_cons.1 h2 with rfl | h2
  · exact h3
  · exact ltS_trans h3 (drop_lt hs q h2)
theorem with_mem {l : List Prp} {nm : ByteArray} {w : Val} {p : Prp} (h : p ∈ withM l nm w) : p = (nm, w) ∨ p ∈ l := by
  unfold withM at h
  rcases List.mem_append.1 h with h | h
  · exact .inr (List.mem_of_mem_take h)
  · rcases List.mem_cons.1 h with h | h
    · exact .inl h
    · exact .inr (List.mem_of_mem_drop h)
theorem with_len (l : List Prp) (nm : ByteArray) (w : Val) : (withM l nm w).length ≤ l.length + 1 := by
  obtain ⟨b1, b2⟩ := zBk_bd l nm
  unfold withM
  simp
  omega
theorem own_with {l : List Prp} (nm nm' : ByteArray) (w : Val) (hs : Srt l) : ownM (withM l nm w) nm' = if nm' = nm then some w else ownM l nm' := by
  rw [own_find, own_find]
  unfold withM
  rw [List.findSome?_append, List.findSome?_cons]
  by_cases h : nm' = nm
  · subst h
    have : (l.take (zOf l nm')).findSome? (fun p => if p.1 = nm' then some p.2 else none) = none := by
      rw [List.findSome?_eq_none_iff]
      intro p hp
      rw [if_neg]
      intro e
      have := take_lt hs p hp
      rw [e] at this
      exact ltS_irrefl _ this
    rw [this]
    simp
  · rw [if_neg h, if_neg (fun e => h e.symm)]
    simp only
    conv => rhs; rw [split_z l nm]
    rw [List.findSome?_append]
    congr 1
    by_cases h2 : zOf l nm < l.length ∧ (l.getD (zOf l nm) dP).1 = nm
    · have hb : zBk l nm = zOf l nm + 1 := by unfold zBk; rw [if_pos h2]
      rw [hb, List.drop_eq_getElem_cons h2.1, List.findSome?_cons]
      have e : (l[zOf l nm]'h2.1).1 = nm := by
        have := h2.2
        rw [List.getD_eq_getElem?_getD, List.getElem?_eq_getElem h2.1] at this
        exact this
      rw [if_neg (by rw [e]; exact fun q => h q.symm)]
    · have hb : zBk l nm = zOf l nm := by unfold zBk; rw [if_neg h2]
      rw [hb]
theorem right_mono {n m : Nat} {v : Val} (h : Right n v) (hnm : n ≤ m) : Right m v := by unfold Right at *; omega
def newM (s : List Ob) (o : Ob) : List Ob × Val × Bool := if MayS (s ++ [o]) then (s ++ [o], (4, (s.length : Int)), true) else ([], (0, 0), false)
theorem fits_app {s : List Ob} {o : Ob} (hf : Fits s) (hs : s.length ≤ 1000000000) (ho : o.1.length < 9223372036854775808) : Fits (s ++ [o]) := by
  refine ⟨by simp; omega, fun i hi => ?_⟩
  rw [List.length_append, List.length_singleton] at hi
  rcases Nat.lt_or_ge i s.length with h | h
  · have := hf.2 i h
    rw [List.getD_eq_getElem?_getD, List.getElem?_append_left h, ← List.getD_eq_getElem?_getD]
    exact this
  · have : i = s.length := by omega
    subst this
    simpa [List.getD_eq_getElem?_getD] using ho
theorem ref_new (s : List Ob) (o : Ob) (hf : Fits s) (hs : s.length ≤ 1000000000) (ho : o.1.length < 9223372036854775808) : ref19_New K (s, o) = some (newM s o) := by
  unfold ref19_New newM
  have e : P.app (P.app ([] : List Ob) s) [o] = s ++ [o] := by simp [P.app]
  have e1 : P.app ([] : List Ob) s = s := by simp [P.app]
  have e2 : P.nil (List (ByteArray × Int × Int) × Int × Int) = [] := rfl
  dsimp only
  rw [e, e1, e2, ref_may _ (fits_app hf hs ho)]
  simp only [cond_eq, bind_some, len_eq, room_nat, not_iff, decide_eq_true_eq]
  rw [if_pos (by simp; omega), if_pos (by simp; omega)]
  by_cases h : MayS (s ++ [o])
  · rw [if_neg (not_not_intro h), if_pos h]
  · rw [if_pos h, if_neg h]
theorem getD_app {α : Type} {s : List α} {t : List α} {i : Nat} (h : i < s.length) (d : α) : (s ++ t).getD i d = s.getD i d := by
  rw [List.getD_eq_getElem?_getD, List.getElem?_append_left h, ← List.getD_eq_getElem?_getD]
noncomputable def setS (s : List Ob) (i : Nat) (nm : ByteArray) (w : Val) : List Ob := s.set i (withM (s.getD i dO).1 nm w, (s.getD i dO).2)
open Classical in
noncomputable def setM (s : List Ob) (v : Val) (nm : ByteArray) (w : Val) : List Ob × Bool := if MayS s ∧ v.1 = 4 ∧ Right s.length v ∧ Right s.length w then (setS s v.2.toNat nm w, true) else ([], false)
theorem ref_set (s : List Ob) (v : Val) (nm : ByteArray) (w : Val) (hf : Fits s) (hs : s.length ≤ 1000000000) (hp : ∀ i, i < s.length → (s.getD i dO).1.length ≤ 1000000000) : ref19_Set K (s, v, nm, w) = some (setM s v nm w) := by
  unfold ref19_Set setM
  have e1 : P.app ([] : List Ob) s = s := by simp [P.app]
  have e2 : P.nil (List (ByteArray × Int × Int) × Int × Int) = [] := rfl
  dsimp only
  rw [ref_may s hf, ref_right, ref_right, e1, e2]
  simp only [cond_eq, bind_some, len_eq, room_nat, not_iff, decide_eq_true_eq, ieq_iff, inb_iff]
  by_cases h1 : MayS s
  · rw [if_neg (not_not_intro h1)]
    by_cases h2 : v.1 = 4
    · rw [if_neg (not_not_intro h2)]
      by_cases h3 : Right s.length v
      · rw [if_neg (not_not_intro h3)]
        by_cases h4 : Right s.length w
        · have hr := right4 h2 h3
          have hlt : v.2.toNat < s.length := by omega
          have hg : P.get s v.2 (([], 0, 0) : Ob) = s.getD v.2.toNat dO := rfl
          rw [if_neg (not_not_intro h4), if_pos (by simp; omega), if_pos (by omega), hg, ref_with _ nm w (h1.srt hlt) (hp _ hlt), bind_some, if_pos (by omega), if_pos ⟨h1, h2, h3, h4⟩]
          rfl
        · rw [if_pos h4, if_neg (fun q => h4 q.2.2.2)]
      · rw [if_pos h3, if_neg (fun q => h3 q.2.2.1)]
    · rw [if_pos h2, if_neg (fun q => h2 q.2.1)]
  · rw [if_pos h1, if_neg (fun q => h1 q.1)]
end Go.PL.Sto
end
section
open Go Go.PG Go.PL
set_option linter.all false
namespace Go.PL.Cf
open Go.PL.Sto (Val Prp Ob dP dO Right)
abbrev Fr := List Prp × List Int × List (List Int)
def FewF (f : Fr) : Prop := f.1.length ≤ 100000 ∧ f.2.1.length ≤ 100000 ∧ f.2.2.length ≤ 100000 ∧ ∀ l, l ∈ f.2.2 → l.length ≤ 100000
theorem loop_any {α ρ σ : Type} (l : List α) (d : α) (q : α → Prop) [DecidablePred q] (r : ρ) {f : Int → Option (Int ⊕ (Unit ⊕ ρ))} {A : Option σ} {B : ρ → Option σ} (hn : l.length ≤ 1000000000)
    (hs : ∀ i : Nat, i < l.length → f (i : Int) = some (if q (l.getD i d) then .inr (.inr r) else .inl ((i + 1 : Nat) : Int))) (he : f (l.length : Int) = some (.inr (.inl ()))) :
    P.bind (P.iter K f 0) (P.either (fun (_ : Unit) => A) B) = if (l.any fun x => decide (q x)) = true then B r else A := by
  rw [loop_find l d q (fun _ => r) hn hs he]
  cases h : l.find? fun x => decide (q x) with
  | none =>
    rw [if_neg]
    rw [List.any_eq_true]
    rintro ⟨x, hx, hq⟩
    have := List.find?_eq_none.1 h x hx
    exact this hq
  | some x =>
    rw [if_pos]
    rw [List.any_eq_true]
    exact ⟨x, List.mem_of_find?_eq_some h, by simpa using List.find?_some h⟩
theorem loop_every {α ρ σ : Type} (l : List α) (d : α) (q : α → Prop) [DecidablePred q] (r : ρ) {f : Int → Option (Int ⊕ (Unit ⊕ ρ))} {A : Option σ} {B : ρ → Option σ} (hn : l.length ≤ 1000000000)
    (hs : ∀ i : Nat, i < l.length → f (i : Int) = some (if q (l.getD i d) then .inl ((i + 1 : Nat) : Int) else .inr (.inr r))) (he : f (l.length : Int) = some (.inr (.inl ()))) :
    P.bind (P.iter K f 0) (P.either (fun (_ : Unit) => A) B) = if (l.all fun x => decide (q x)) = true then A else B r := by
  rw [loop_all l.length (fun i => q (l.getD i d)) hn hs he]
  by_cases h : (l.all fun x => decide (q x)) = true
  · rw [if_pos h, if_pos]
    intro i hi
    simpa using List.all_eq_true.1 h _ (getD_mem hi d)
  · rw [if_neg h, if_neg]
    intro q'
    apply h
    rw [List.all_eq_true]
    intro x hx
    simpa using (forall_getD d).1 q' x hx
def ofB (f : Fr) (v : Val) (x : At) : Bool :=
  if x.1 = 0 then decide (v.1 = 0) else if x.1 = 1 then decide (v.1 = 1) else if x.1 = 2 then decide (v.1 = 2) else if x.1 = 3 then decide (v.1 = 3 ∧ v.2 = x.2)
  else if x.1 = 4 then decide (v.1 = 4 ∧ 0 ≤ x.2 ∧ x.2 < f.2.1.length ∧ 0 ≤ f.2.1.getD x.2.toNat 0 ∧ f.2.1.getD x.2.toNat 0 = v.2)
  else if x.1 = 5 then decide (v.1 = 4 ∧ 0 ≤ x.2 ∧ x.2 < f.2.2.length ∧ v.2 ∈ f.2.2.getD x.2.toNat []) else decide (x.1 = 6)
def valB (f : Fr) (v : Val) (a : List At) : Bool := a.any (ofB f v)
theorem at_newest (k : Nat) (f : Fr) (x : Int) : conform_newest k (f, x) = some (if 0 ≤ x ∧ x < f.2.1.length then f.2.1.getD x.toNat 0 else -1) := by
  unfold conform_newest
  try dsimp only
  rw [ilt_dec, cond_dec, ile_dec, cond_dec, len_eq]
  by_cases h : x < 0
  · rw [if_pos h, if_neg (by omega)]
  · rw [if_neg h]
    by_cases h2 : (f.2.1.length : Int) ≤ x
    · rw [if_pos h2, if_neg (by omega)]
    · rw [if_neg h2, if_pos (by omega)]
      rw [show P.inb x (f.2.1.length : Int) = true by unfold P.inb; simp; omega, cond_true]
      rfl
theorem older_few {f : Fr} (h : FewF f) (i : Nat) : (f.2.2.getD i []).length ≤ 100000 := by
  by_cases hi : i < f.2.2.length
  · exact h.2.2.2 _ (getD_mem hi [])
  · rw [List.getD_eq_getElem?_getD, List.getElem?_eq_none (by omega)]; simp
theorem has_loop {ρ σ : Type} (l : List Int) (v : Int) (hl : l.length ≤ 100000) {f : Int → Option (Int ⊕ (Unit ⊕ ρ))} {A : Option σ} {B : ρ → Option σ} {r : ρ}
    (hs : ∀ i : Nat, i < l.length → f (i : Int) = some (if v = l.getD i 0 then .inr (.inr r) else .inl ((i + 1 : Nat) : Int))) (he : f (l.length : Int) = some (.inr (.inl ()))) :
    P.bind (P.iter K f 0) (P.either (fun (_ : Unit) => A) B) = if v ∈ l then B r else A := by
  rw [loop_any l 0 (fun x => v = x) r (by omega) hs he]
  by_cases h : v ∈ l
  · rw [if_pos h, if_pos]
    rw [List.any_eq_true]
    exact ⟨v, h, by simp⟩
  · rw [if_neg h, if_neg]
    rw [List.any_eq_true]
    rintro ⟨x, hx, q⟩
    simp only [decide_eq_true_eq] at q
    exact h (q ▸ hx)
theorem ile_nat (i : Nat) : P.ile 0 (i : Int) = true := by rw [ile_dec]; simp
theorem at_of (f : Fr) (v : Val) (x : At) (h : FewF f) : conform_of K (f, v, x) = some (ofB f v x) := by
  unfold conform_of ofB
  try dsimp only
  simp only [ieq_eq, cond_dec]
  by_cases h0 : x.1 = 0
  · rw [if_pos h0, if_pos h0]
  rw [if_neg h0, if_neg h0]
  by_cases h1 : x.1 = 1
  · rw [if_pos h1, if_pos h1]
  rw [if_neg h1, if_neg h1]
  by_cases h2 : x.1 = 2
  · rw [if_pos h2, if_pos h2]
  rw [if_neg h2, if_neg h2]
  by_cases h3 : x.1 = 3
  · rw [if_pos h3, if_pos h3]
    congr 1
    rw [Bool.eq_iff_iff, and_iff]
    simp
  rw [if_neg h3, if_neg h3]
  by_cases h4 : x.1 = 4
  · rw [if_pos h4, if_pos h4]
    by_cases c : v.1 = 4
    · rw [if_pos c, at_newest, bind_some, bind_some, ile_dec, cond_dec]
      by_cases b : 0 ≤ x.2 ∧ x.2 < f.2.1.length
      · rw [if_pos b]
        by_cases n : 0 ≤ f.2.1.getD x.2.toNat 0
        · rw [if_pos n]
          congr 1
          rw [Bool.eq_iff_iff, decide_eq_true_eq, decide_eq_true_eq]
          exact ⟨fun q => ⟨c, b.1, b.2, n, q⟩, fun q => q.2.2.2.2⟩
        · rw [if_neg n]
          congr 1
          symm
          rw [decide_eq_false_iff_not]
          exact fun q => n q.2.2.2.1
      · rw [if_neg b, if_neg (by decide)]
        congr 1
        symm
        rw [decide_eq_false_iff_not]
        exact fun q => b ⟨q.2.1, q.2.2.1⟩
    · rw [if_neg c]
      congr 1
      symm
      rw [decide_eq_false_iff_not]
      exact fun q => c q.1
  rw [if_neg h4, if_neg h4]
  by_cases h5 : x.1 = 5
  · rw [if_pos h5, if_pos h5]
    by_cases c : v.1 = 4
    · rw [if_pos c, ile_dec, cond_dec, ilt_dec, cond_dec, len_eq]
      by_cases b : 0 ≤ x.2
      · rw [if_pos b]
        by_cases b2 : x.2 < f.2.2.length
        · rw [if_pos b2, show P.inb x.2 (f.2.2.length : Int) = true by unfold P.inb; simp; omega, cond_true]
          rw [has_loop (f.2.2.getD x.2.toNat []) v.2 (older_few h _) (r := true) ?_ ?_]
          · by_cases m : v.2 ∈ f.2.2.getD x.2.toNat []
            · rw [if_pos m]
              congr 1
              symm
              rw [decide_eq_true_eq]
              exact ⟨c, b, b2, m⟩
            · rw [if_neg m]
              congr 1
              symm
              show decide _ = false
              rw [decide_eq_false_iff_not]
              exact fun q => m q.2.2.2
          · intro i hi
            try dsimp only
            rw [show P.get f.2.2 x.2 [] = f.2.2.getD x.2.toNat [] from rfl, ilt_len hi, cond_true, inb_len hi, cond_true, get_nat, wrap_succ (by have := older_few h x.2.toNat; omega), ile_nat]
            split <;> rfl
          · try dsimp only
            rw [show P.get f.2.2 x.2 [] = f.2.2.getD x.2.toNat [] from rfl, ilt_end]
            rfl
        · rw [if_neg b2]
          congr 1
          symm
          rw [decide_eq_false_iff_not]
          exact fun q => b2 q.2.2.1
      · rw [if_neg b]
        congr 1
        symm
        rw [decide_eq_false_iff_not]
        exact fun q => b q.2.1
    · rw [if_neg c]
      congr 1
      symm
      rw [decide_eq_false_iff_not]
      exact fun q => c q.1
  rw [if_neg h5, if_neg h5]
theorem any_if {σ : Type} (l : List At) (p : At → Bool) (X Y : σ) : (if (l.any fun x => decide (p x = true)) = true then X else Y) = if l.any p = true then X else Y := by
  have : (l.any fun x => decide (p x = true)) = l.any p := by congr 1; funext x; simp
  rw [this]
theorem at_value (f : Fr) (v : Val) (a : List At) (h : FewF f) (ha : a.length ≤ 1000000) : conform_Value K (f, v, a) = some (valB f v a) := by
  unfold conform_Value
  try dsimp only
  rw [loop_any a dA (fun x => ofB f v x = true) true (by omega) ?_ ?_]
  · rw [any_if]
    unfold valB
    cases a.any (ofB f v) <;> rfl
  · intro i hi
    try dsimp only
    rw [ilt_len hi, cond_true, inb_len hi, cond_true, get_nat, at_of f v _ h, bind_some, ile_nat, wrap_succ (by omega)]
    cases ofB f v (a.getD i dA) <;> rfl
  · try dsimp only
    rw [ilt_end]
    rfl
end Go.PL.Cf
end
section
open Go Go.PG Go.PL
set_option linter.all false
namespace Go.PL.Cf
open Go.PL.Sto (Val Prp Ob dP dO Right)
def FewO (s : List Ob) : Prop := s.length ≤ 100000 ∧ ∀ o, o ∈ s → o.1.length ≤ 100000
theorem few_at {s : List Ob} (h : FewO s) (i : Nat) : (s.getD i dO).1.length ≤ 100000 := by
  by_cases hi : i < s.length
  · exact h.2 _ (getD_mem hi dO)
  · rw [List.getD_eq_getElem?_getD, List.getElem?_eq_none (by omega)]; simp
def hasP (l : List Prp) (n : ByteArray) : Bool := l.any fun p => decide (p.1 = n)
def prB (f : Fr) (o : Sp) (p : Prp) : Bool := (getR o.1 p.1).2 && valB f p.2 (getR o.1 p.1).1.2.2
def fdB (l : List Prp) (d : Fd) : Bool := !d.2.1 || hasP l d.1
def obB (f : Fr) (s : List Ob) (n : Int) (o : Sp) : Bool := if 0 ≤ n ∧ n < s.length then
  valB f (s.getD n.toNat dO).2 o.2 && ((s.getD n.toNat dO).1.all (prB f o) && o.1.all (fdB (s.getD n.toNat dO).1)) else false
theorem all_if {α σ : Type} (l : List α) (p : α → Bool) (X Y : σ) : (if (l.all fun x => decide (p x = true)) = true then X else Y) = if l.all p = true then X else Y := by
  have : (l.all fun x => decide (p x = true)) = l.all p := by congr 1; funext x; simp
  rw [this]
theorem getR_few' {o : Sp} (h : FewS o) (n : ByteArray) : (getR o.1 n).1.2.2.length ≤ 1000000 := by have := getR_few h n; omega
theorem at_object (f : Fr) (s : List Ob) (n : Int) (o : Sp) (hf : FewF f) (hs : FewO s) (ho : FewS o) : conform_Object K (f, s, n, o) = some (obB f s n o) := by
  unfold conform_Object obB
  try dsimp only
  rw [ilt_dec, cond_dec, ile_dec, cond_dec, len_eq]
  by_cases h : 0 ≤ n ∧ n < s.length
  · rw [if_pos h, if_neg (by omega), if_neg (by omega), show P.inb n (s.length : Int) = true by unfold P.inb; simp; omega, cond_true, cond_true]
    simp only [show P.get s n ([], 0, 0) = s.getD n.toNat dO from rfl, cond_true]
    have hl := few_at hs n.toNat
    generalize s.getD n.toNat dO = ob at hl
    rw [at_value f ob.2 o.2 hf (by have := ho.2.2; omega), bind_some]
    cases valB f ob.2 o.2 with
    | false => rfl
    | true =>
    rw [not_true, cond_false, Bool.true_and]
    rw [loop_every ob.1 dP (fun p => prB f o p = true) false (by omega) ?_ ?_]
    · rw [all_if]
      cases ob.1.all (prB f o) with
      | false => rfl
      | true =>
      rw [if_pos rfl, Bool.true_and]
      rw [loop_every o.1 dF (fun d => fdB ob.1 d = true) false (by have := ho.1; omega) ?_ ?_]
      · rw [all_if]
        cases o.1.all (fdB ob.1) <;> rfl
      · intro i hi
        try dsimp only
        have hi' := ho.1
        rw [ilt_len hi, cond_true, inb_len hi, cond_true]
        simp only [get_nat]
        rw [wrap_succ (by omega)]
        generalize o.1.getD i dF = d
        unfold fdB
        cases d.2.1 with
        | false => rfl
        | true =>
        rw [cond_true, Bool.not_true, Bool.false_or, ile_nat]
        rw [loop_any ob.1 dP (fun p => p.1 = d.1) (.inl ((i + 1 : Nat) : Int)) (by omega) ?_ ?_]
        · unfold hasP
          cases ob.1.any fun p => decide (p.1 = d.1) <;> rfl
        · intro j hj
          try dsimp only
          rw [ilt_len hj, cond_true, inb_len hj, cond_true, get_nat, seq_dec, cond_dec, wrap_succ (by omega), ile_nat]
          by_cases q : (ob.1.getD j dP).1 = d.1
          · rw [if_pos q, if_pos q]; rfl
          · rw [if_neg q, if_neg q]
        · try dsimp only
          rw [ilt_end]; rfl
      · try dsimp only
        rw [ilt_end]; rfl
    · intro i hi
      try dsimp only
      rw [ilt_len hi, cond_true, inb_len hi, cond_true, get_nat, ob_get o _ ho, bind_some, at_value f _ _ hf (getR_few' ho _), bind_some, wrap_succ (by omega)]
      generalize ob.1.getD i dP = p
      unfold prB
      cases (getR o.1 p.1).2 <;> cases valB f p.2 (getR o.1 p.1).1.2.2 <;> rfl
    · try dsimp only
      rw [ilt_end]; rfl
  · rw [if_neg h]
    by_cases h1 : n < 0
    · rw [if_pos h1]
    · rw [if_neg h1, if_pos (by omega)]
def varF (f : Fr) (n : ByteArray) : Val := match f.1.find? fun p => decide (p.1 = n) with
  | some p => p.2
  | none => (0, 0)
theorem at_variable (f : Fr) (n : ByteArray) (h : FewF f) : conform_variable K (f, n) = some (varF f n) := by
  unfold conform_variable
  try dsimp only
  rw [loop_find f.1 dP (fun p => p.1 = n) (fun p => p.2) (by have := h.1; omega) ?_ ?_]
  · unfold varF
    cases f.1.find? fun p => decide (p.1 = n) with
    | none => rfl
    | some p => rfl
  · intro i hi
    have := h.1
    try dsimp only
    rw [ilt_len hi, cond_true, inb_len hi, cond_true, cond_true, get_nat, seq_dec, cond_dec, wrap_succ (by omega), show P.ilt (i : Int) 0 = false by rw [ilt_dec]; simp, cond_false]
    by_cases q : (f.1.getD i dP).1 = n
    · rw [if_pos q, if_pos q]; rfl
    · rw [if_neg q, if_neg q]
  · try dsimp only
    rw [ilt_end]; rfl
theorem ref_varF (f : Fr) (n : ByteArray) (h : FewF f) : ref21_Var K (f, n) = some (varF f n) := by
  unfold ref21_Var
  try dsimp only
  rw [loop_find f.1 dP (fun p => p.1 = n) (fun p => p.2) (by have := h.1; omega) ?_ ?_]
  · unfold varF
    cases f.1.find? fun p => decide (p.1 = n) with
    | none => rfl
    | some p => rfl
  · intro i hi
    have := h.1
    try dsimp only
    rw [ilt_len hi, cond_true, inb_len hi, cond_true, cond_true, get_nat, seq_dec, cond_dec, wrap_succ (by omega)]
    by_cases q : (f.1.getD i dP).1 = n
    · rw [if_pos q, if_pos q]
    · rw [if_neg q, if_neg q]
  · try dsimp only
    rw [ilt_end]; rfl
theorem amb_same {α : Type} (x : Option α) : P.amb x x = x := by simp [P.amb]
theorem cloneA (k : Nat) (x : List At) (h : x.length ≤ 1000000) : slCloneAtom k x = some x := by
  have hr : P.room (P.add (P.len (P.nil (Int × Int))) (P.len x)) 16 = true := by
    unfold P.room
    rw [decide_eq_true_eq, len_eq, len_eq]
    unfold P.add P.nil
    simp
    omega
  unfold slCloneAtom
  try dsimp only
  rw [hr, cond_true]
  have e : P.app [] x = x := rfl
  rw [e, ilt_dec, cond_dec, len_eq]
  by_cases h0 : 0 < (x.length : Int)
  · rw [if_pos h0]; rfl
  · rw [if_neg h0]
    have : x = [] := List.eq_nil_of_length_eq_zero (by omega)
    subst this
    exact amb_same _
theorem at_var (s : Sta) (n : ByteArray) (h : FewT s) : state_Var K (s, n) = some (var s.2.1 n) := by
  unfold state_Var
  try dsimp only
  rw [loop_find s.2.1 dB (fun b => b.1 = n) (fun b => b.2) (by have := h.1; omega) ?_ ?_]
  · unfold var getV
    cases s.2.1.find? fun b => decide (b.1 = n) with
    | none => rfl
    | some b => rfl
  · intro i hi
    have := h.1
    have hm := h.2.1 _ (getD_mem hi dB)
    try dsimp only
    rw [ilt_len hi, cond_true, inb_len hi, cond_true, cond_true, get_nat, seq_dec, cond_dec, wrap_succ (by omega), ile_nat, cond_true, cloneA K _ (Nat.le_trans hm (by omega)), bind_some]
    by_cases q : (s.2.1.getD i dB).1 = n
    · rw [if_pos q, if_pos q]; rfl
    · rw [if_neg q, if_neg q]
  · try dsimp only
    rw [ilt_end]; rfl
end Go.PL.Cf
end
section
open Go Go.PG Go.PL
set_option linter.all false
namespace Go.PL.Cf
open Go.PL.Sto (Val Prp Ob dP dO Right)
def vB (f : Fr) (a : Sta) (n : ByteArray) : Bool := valB f (varF f n) (var a.2.1 n)
def lcB (f : Fr) (s : List Ob) (a : Sta) (n : Int) (x : At) : Bool := (locR a.2.2 x).2 && obB f s n (locR a.2.2 x).1
def nwB (f : Fr) (s : List Ob) (a : Sta) (i : Nat) : Bool := decide (f.2.1.getD i 0 = -1) || lcB f s a (f.2.1.getD i 0) (4, (i : Int))
def odB (f : Fr) (s : List Ob) (a : Sta) (i : Nat) : Bool := (f.2.2.getD i []).all fun n => lcB f s a n (5, (i : Int))
def StP (f : Fr) (s : List Ob) (a : Sta) : Prop := a.1 = false ∧ (f.1.all fun p => vB f a p.1) = true ∧ (a.2.1.all fun b => vB f a b.1) = true ∧ (∀ i, i < f.2.1.length → nwB f s a i = true) ∧ ∀ i, i < f.2.2.length → odB f s a i = true
instance (f : Fr) (s : List Ob) (a : Sta) : Decidable (StP f s a) := by unfold StP; exact inferInstance
theorem locR_few {a : Sta} (h : FewT a) (x : At) : FewS (locR a.2.2 x).1 := by
  unfold locR getL
  cases q : a.2.2.find? fun b => decide (b.1 = x) with
  | none => exact ⟨by simp, by simp, by simp⟩
  | some b => exact h.2.2.2 b (List.mem_of_find?_eq_some q)
theorem at_loc (f : Fr) (s : List Ob) (n : Int) (a : Sta) (x : At) (hf : FewF f) (hs : FewO s) (ha : FewT a) : conform_loc K (f, s, n, a, x) = some (lcB f s a n x) := by
  unfold conform_loc lcB
  try dsimp only
  rw [st_loc a x ha, bind_some, at_object f s n _ hf hs (locR_few ha x), bind_some]
  cases (locR a.2.2 x).2 <;> rfl
theorem st_text {f : Fr} {s : List Ob} {a : Sta} (h1 : a.1 = false) : (if (f.1.all fun p => vB f a p.1) = true then if (a.2.1.all fun b => vB f a b.1) = true then if ∀ i, i < f.2.1.length → nwB f s a i = true then if ∀ i, i < f.2.2.length → odB f s a i = true then some true else some false else some false else some false else some false) = some (decide (StP f s a)) := by
  by_cases q1 : (f.1.all fun p => vB f a p.1) = true
  · by_cases q2 : (a.2.1.all fun b => vB f a b.1) = true
    · by_cases q3 : ∀ i, i < f.2.1.length → nwB f s a i = true
      · by_cases q4 : ∀ i, i < f.2.2.length → odB f s a i = true
        · rw [if_pos q1, if_pos q2, if_pos q3, if_pos q4, decide_eq_true (show StP f s a from ⟨h1, q1, q2, q3, q4⟩)]
        · rw [if_pos q1, if_pos q2, if_pos q3, if_neg q4, decide_eq_false (fun z : StP f s a => q4 z.2.2.2.2)]
      · rw [if_pos q1, if_pos q2, if_neg q3, decide_eq_false (fun z : StP f s a => q3 z.2.2.2.1)]
    · rw [if_pos q1, if_neg q2, decide_eq_false (fun z : StP f s a => q2 z.2.2.1)]
  · rw [if_neg q1, decide_eq_false (fun z : StP f s a => q1 z.2.1)]
theorem at_state (f : Fr) (s : List Ob) (a : Sta) (hf : FewF f) (hs : FewO s) (ha : FewT a) : conform_State K (f, s, a) = some (decide (StP f s a)) := by
  unfold conform_State
  try dsimp only
  have hv := fun n => var_few ha n
  cases h1 : a.1 with
  | true => rw [cond_true, decide_eq_false (fun z : StP f s a => by have := z.1; rw [h1] at this; cases this)]
  | false =>
  rw [cond_false, ← st_text h1]
  have step : ∀ n : ByteArray, ∀ {σ : Type} (F : Bool → Option σ), (P.bind (conform_variable K (f, n)) fun r => P.bind (state_Var K (a, n)) fun r_1 => P.bind (conform_Value K (f, r, r_1)) F) = F (vB f a n) := by
    intro n σ F
    rw [at_variable f n hf, bind_some, at_var a n ha, bind_some, at_value f _ _ hf (by have := hv n; omega), bind_some]
    rfl
  rw [loop_every f.1 dP (fun p => vB f a p.1 = true) false (by have := hf.1; omega) ?_ ?_]
  · rw [all_if]
    congr 1
    rw [loop_every a.2.1 dB (fun b => vB f a b.1 = true) false (by have := ha.1; omega) ?_ ?_]
    · rw [all_if]
      congr 1
      rw [loop_all f.2.1.length (fun i => nwB f s a i = true) (r := false) (by have := hf.2.1; omega) ?_ ?_]
      · congr 1
        rw [loop_all f.2.2.length (fun i => odB f s a i = true) (r := false) (by have := hf.2.2.1; omega) ?_ ?_]
        · intro i hi
          try dsimp only
          have hl := older_few hf i
          have := hf.2.2.1
          rw [ilt_len hi, cond_true, inb_len hi, cond_true, get_nat, wrap_succ (by omega)]
          rw [loop_every (f.2.2.getD i []) 0 (fun n => lcB f s a n (5, (i : Int)) = true) (.inr (.inr false)) (by omega) ?_ ?_]
          · rw [all_if]
            unfold odB
            cases (f.2.2.getD i []).all fun n => lcB f s a n (5, (i : Int)) <;> rfl
          · intro j hj
            try dsimp only
            rw [ilt_len hj, cond_true, inb_len hj, cond_true, get_nat, at_loc f s _ a _ hf hs ha, bind_some, wrap_succ (by omega)]
            cases lcB f s a ((f.2.2.getD i []).getD j 0) (5, (i : Int)) <;> rfl
          · try dsimp only
            rw [ilt_end]; rfl
        · try dsimp only
          rw [ilt_end]; rfl
      · intro i hi
        try dsimp only
        have := hf.2.1
        rw [ilt_len hi, cond_true, inb_len hi, cond_true, get_nat, at_loc f s _ a _ hf hs ha, bind_some, wrap_succ (by omega), ieq_eq, cond_ndec]
        unfold nwB
        by_cases q : f.2.1.getD i 0 = -1
        · rw [if_pos q, decide_eq_true q]; rfl
        · rw [if_neg q, decide_eq_false q]
          cases lcB f s a (f.2.1.getD i 0) (4, (i : Int)) <;> rfl
      · try dsimp only
        rw [ilt_end]; rfl
    · intro i hi
      try dsimp only
      have := ha.1
      rw [ilt_len hi, cond_true, inb_len hi, cond_true, get_nat, step, wrap_succ (by omega)]
      cases vB f a (a.2.1.getD i dB).1 <;> rfl
    · try dsimp only
      rw [ilt_end]; rfl
  · intro i hi
    try dsimp only
    have := hf.1
    rw [ilt_len hi, cond_true, inb_len hi, cond_true, get_nat, step, wrap_succ (by omega)]
    cases vB f a (f.1.getD i dP).1 <;> rfl
  · try dsimp only
    rw [ilt_end]; rfl
end Go.PL.Cf
end
section
open Go Go.PG Go.PL
set_option linter.all false
namespace Go.PL.Cf
open Go.PL.Sto (Val Prp Ob dP dO Right)
def clI (x : List Int) : Option (List Int) := P.cond (P.room (P.add (P.len (P.nil Int)) (P.len x)) 8) (some x) none
theorem cloneI_eq (k : Nat) : slices_Clone_int_int k = clI := by
  funext x
  unfold slices_Clone_int_int clI
  try dsimp only
  have e : P.app [] x = x := rfl
  rw [e, ilt_dec, cond_dec, len_eq]
  by_cases h0 : 0 < (x.length : Int)
  · rw [if_pos h0]; rfl
  · rw [if_neg h0]
    have : x = [] := List.eq_nil_of_length_eq_zero (by omega)
    subst this
    exact amb_same _
theorem cloneI (k : Nat) (x : List Int) (h : x.length ≤ 1000000) : slices_Clone_int_int k x = some x := by
  rw [cloneI_eq]
  unfold clI
  have hr : P.room (P.add (P.len (P.nil Int)) (P.len x)) 8 = true := by
    unfold P.room
    rw [decide_eq_true_eq, len_eq, len_eq]
    unfold P.add P.nil
    simp
    omega
  rw [hr, cond_true]
set_option maxRecDepth 100000 in
theorem fixed21 : law21_fixed K () = some true := by
  unfold law21_fixed conform_Fresh
  rw [cloneI_eq]
  kernel_rfl
end Go.PL.Cf
end
section
open Go Go.PG Go.PL
set_option linter.all false
namespace Go.PL.Cf
open Go.PL.Sto (Val Prp Ob dP dO Right)
theorem val_mono {f : Fr} {v : Val} {a b : List At} (h : Within a b) (q : valB f v a = true) : valB f v b = true := by
  unfold valB at *
  rw [List.any_eq_true] at q ⊢
  obtain ⟨x, hx, hq⟩ := q
  exact ⟨x, h x hx, hq⟩
def ObP (f : Fr) (s : List Ob) (n : Int) (o : Sp) : Prop := 0 ≤ n ∧ n < s.length ∧ valB f (s.getD n.toNat dO).2 o.2 = true ∧
  (∀ p, p ∈ (s.getD n.toNat dO).1 → pr o.1 p.1 = true ∧ valB f p.2 (va o.1 p.1) = true) ∧ ∀ m, su o.1 m = true → hasP (s.getD n.toNat dO).1 m = true
theorem ob_iff {f : Fr} {s : List Ob} {n : Int} {o : Sp} (h : RisesF o.1) : obB f s n o = true ↔ ObP f s n o := by
  unfold obB ObP
  by_cases hn : 0 ≤ n ∧ n < s.length
  · rw [if_pos hn, Bool.and_eq_true, Bool.and_eq_true, List.all_eq_true, List.all_eq_true]
    constructor
    · rintro ⟨h1, h2, h3⟩
      refine ⟨hn.1, hn.2, h1, fun p hp => ?_, fun m hm => ?_⟩
      · have := h2 p hp
        unfold prB at this
        rw [Bool.and_eq_true] at this
        exact this
      · have g := get_view o.1 m
        rw [if_pos (su_pr hm)] at g
        have := h3 _ (get_mem g)
        unfold fdB at this
        simp only at this
        rw [hm, Bool.not_true, Bool.false_or] at this
        exact this
    · rintro ⟨_, _, h1, h2, h3⟩
      refine ⟨h1, fun p hp => ?_, fun d hd => ?_⟩
      · unfold prB
        rw [Bool.and_eq_true]
        exact h2 p hp
      · unfold fdB
        cases q : d.2.1 with
        | false => rfl
        | true =>
          rw [Bool.not_true, Bool.false_or]
          apply h3
          unfold su getR
          rw [get_of_mem h hd]
          exact q
  · rw [if_neg hn]
    constructor
    · intro q; cases q
    · intro q; exact absurd ⟨q.1, q.2.1⟩ hn
theorem ob_mono {f : Fr} {s : List Ob} {n : Int} {o o' : Sp} (h : WithinO o o') (q : ObP f s n o) : ObP f s n o' := by
  obtain ⟨_, _, h1, h2⟩ := within_view.1 h
  obtain ⟨a, b, c, d, e⟩ := q
  refine ⟨a, b, val_mono h1 c, fun p hp => ?_, fun m hm => ?_⟩
  · obtain ⟨d1, d2⟩ := d p hp
    obtain ⟨w1, w2, _⟩ := h2 p.1
    exact ⟨w1 d1, val_mono w2 d2⟩
  · exact e m ((h2 m).2.2 hm)
def LcP (f : Fr) (s : List Ob) (a : Sta) (n : Int) (x : At) : Prop := ∃ o, gl a.2.2 x = some o ∧ ObP f s n o
theorem lc_iff {f : Fr} {s : List Ob} {a : Sta} {n : Int} {x : At} (h : MayS a) : lcB f s a n x = true ↔ LcP f s a n x := by
  unfold lcB LcP
  rw [gl_locR]
  cases g : gl a.2.2 x with
  | none => simp
  | some o =>
    have mo := gl_ok h.2.1.2 g
    simp only [Bool.true_and]
    rw [ob_iff mo.1]
    constructor
    · intro q; exact ⟨o, rfl, q⟩
    · rintro ⟨o', q1, q2⟩
      injection q1 with q1
      subst q1
      exact q2
def StV (f : Fr) (s : List Ob) (a : Sta) : Prop := a.1 = false ∧ (∀ n, vB f a n = true) ∧ (∀ i, i < f.2.1.length → f.2.1.getD i 0 ≠ -1 → LcP f s a (f.2.1.getD i 0) (4, (i : Int))) ∧
  ∀ i, i < f.2.2.length → ∀ n, n ∈ f.2.2.getD i [] → LcP f s a n (5, (i : Int))
theorem st_iff {f : Fr} {s : List Ob} {a : Sta} (h : MayS a) : StP f s a ↔ StV f s a := by
  unfold StP StV
  constructor
  · rintro ⟨h1, h2, h3, h4, h5⟩
    refine ⟨h1, fun n => ?_, fun i hi hn => ?_, fun i hi n hn => ?_⟩
    · by_cases q1 : ∃ p, p ∈ f.1 ∧ p.1 = n
      · obtain ⟨p, hp, rfl⟩ := q1
        exact List.all_eq_true.1 h2 p hp
      · by_cases q2 : ∃ b, b ∈ a.2.1 ∧ b.1 = n
        · obtain ⟨b, hb, rfl⟩ := q2
          exact List.all_eq_true.1 h3 b hb
        · have e1 : varF f n = (0, 0) := by
            unfold varF
            cases g : f.1.find? fun p => decide (p.1 = n) with
            | none => rfl
            | some p => exact absurd ⟨p, List.mem_of_find?_eq_some g, by simpa using List.find?_some g⟩ q1
          have e2 : var a.2.1 n = [(0, 0)] := by
            unfold var getV
            cases g : a.2.1.find? fun b => decide (b.1 = n) with
            | none => rfl
            | some p => exact absurd ⟨p, List.mem_of_find?_eq_some g, by simpa using List.find?_some g⟩ q2
          unfold vB
          rw [e1, e2]
          rfl
    · have := h4 i hi
      unfold nwB at this
      rw [decide_eq_false hn, Bool.false_or] at this
      exact (lc_iff h).1 this
    · have := h5 i hi
      unfold odB at this
      exact (lc_iff h).1 (List.all_eq_true.1 this n hn)
  · rintro ⟨h1, h2, h3, h4⟩
    refine ⟨h1, List.all_eq_true.2 fun p _ => h2 p.1, List.all_eq_true.2 fun b _ => h2 b.1, fun i hi => ?_, fun i hi => ?_⟩
    · unfold nwB
      by_cases q : f.2.1.getD i 0 = -1
      · rw [decide_eq_true q]; rfl
      · rw [decide_eq_false q, Bool.false_or]
        exact (lc_iff h).2 (h3 i hi q)
    · unfold odB
      rw [List.all_eq_true]
      exact fun n hn => (lc_iff h).2 (h4 i hi n hn)
theorem loop_allG {ρ σ : Type} (n : Nat) (p : Nat → Prop) [DecidablePred p] {f : Int → Option (Int ⊕ (Unit ⊕ ρ))} {A : Option σ} {B : ρ → Option σ} {r : ρ} (hn : n ≤ 9223372036854775807)
    (hs : ∀ i : Nat, i < n → f (i : Int) = some (if p i then .inl ((i + 1 : Nat) : Int) else .inr (.inr r))) (he : f (n : Int) = some (.inr (.inl ()))) :
    P.bind (P.iter K f 0) (P.either (fun (_ : Unit) => A) B) = if ∀ i, i < n → p i then A else B r := by
  rw [iter_all (n := n) (e := .inl ()) (r := .inr r) p K hs he (by unfold K; omega), bind_some]
  by_cases q : ∀ i, i < n → p i
  · rw [if_pos q, if_pos q]; rfl
  · rw [if_neg q, if_neg q]; rfl
theorem loop_everyG {α ρ σ : Type} (l : List α) (d : α) (q : α → Prop) [DecidablePred q] (r : ρ) {f : Int → Option (Int ⊕ (Unit ⊕ ρ))} {A : Option σ} {B : ρ → Option σ} (hn : l.length ≤ 9223372036854775807)
    (hs : ∀ i : Nat, i < l.length → f (i : Int) = some (if q (l.getD i d) then .inl ((i + 1 : Nat) : Int) else .inr (.inr r))) (he : f (l.length : Int) = some (.inr (.inl ()))) :
    P.bind (P.iter K f 0) (P.either (fun (_ : Unit) => A) B) = if (l.all fun x => decide (q x)) = true then A else B r := by
  rw [loop_allG l.length (fun i => q (l.getD i d)) hn hs he]
  by_cases h : (l.all fun x => decide (q x)) = true
  · rw [if_pos h, if_pos]
    intro i hi
    simpa using List.all_eq_true.1 h _ (getD_mem hi d)
  · rw [if_neg h, if_neg]
    intro q'
    apply h
    rw [List.all_eq_true]
    intro x hx
    simpa using (forall_getD d).1 q' x hx
def SmallF (f : Fr) : Prop := (f.2.2.all fun l => decide (l.length ≤ 30)) = true ∧ f.1.length ≤ 40 ∧ f.2.1.length ≤ 40 ∧ f.2.2.length ≤ 40
instance (f : Fr) : Decidable (SmallF f) := by unfold SmallF; exact inferInstance
theorem smallF_few {f : Fr} (h : SmallF f) : FewF f := ⟨by have := h.2.1; omega, by have := h.2.2.1; omega, by have := h.2.2.2; omega, fun l hl => by
  have := List.all_eq_true.1 h.1 l hl
  simp only [decide_eq_true_eq] at this
  omega⟩
theorem ref_smallF (f : Fr) (hf : f.2.2.length ≤ 9223372036854775807) : ref21_Small K f = some (decide (SmallF f)) := by
  unfold ref21_Small
  try dsimp only
  rw [loop_everyG f.2.2 [] (fun l => l.length ≤ 30) false (by omega) ?_ ?_]
  · simp only [ile_dec, cond_dec, len_eq]
    by_cases q1 : (f.2.2.all fun l => decide (l.length ≤ 30)) = true
    · rw [if_pos q1]
      by_cases q2 : f.1.length ≤ 40
      · rw [if_pos (by omega)]
        by_cases q3 : f.2.1.length ≤ 40
        · rw [if_pos (by omega)]
          congr 1
          rw [Bool.eq_iff_iff, decide_eq_true_eq, decide_eq_true_eq]
          constructor
          · intro q; exact ⟨q1, q2, q3, by omega⟩
          · intro q; have := q.2.2.2; omega
        · rw [if_neg (by omega)]
          congr 1
          symm
          rw [decide_eq_false_iff_not]
          exact fun q => q3 q.2.2.1
      · rw [if_neg (by omega)]
        congr 1
        symm
        rw [decide_eq_false_iff_not]
        exact fun q => q2 q.2.1
    · rw [if_neg q1]
      congr 1
      symm
      rw [decide_eq_false_iff_not]
      exact fun q => q1 q.1
  · intro i hi
    try dsimp only
    rw [ilt_len hi, cond_true, inb_len hi, cond_true, get_nat, wrap_succ (by omega), ilt_dec, cond_dec, len_eq]
    by_cases q : (f.2.2.getD i []).length ≤ 30
    · rw [if_neg (by omega), if_pos q]
    · rw [if_pos (by omega), if_neg q]
  · try dsimp only
    rw [ilt_end]; rfl
def SmallO (s : List Ob) : Prop := (∀ i, i < s.length → (s.getD i dO).1.length ≤ 60) ∧ s.length ≤ 100
instance (s : List Ob) : Decidable (SmallO s) := by unfold SmallO; exact inferInstance
theorem smallO_few {s : List Ob} (h : SmallO s) : FewO s := ⟨by have := h.2; omega, fun o ho => by have := (forall_getD dO (p := fun o : Ob => o.1.length ≤ 60)).1 h.1 o ho; omega⟩
theorem fits_few {s : List Ob} (h : FewO s) : Sto.Fits s := ⟨by have := h.1; omega, fun i hi => by have := few_at h i; omega⟩
theorem ref_smallO (s : List Ob) (hs : s.length ≤ 9223372036854775807) : ref19_Small K s = some (decide (SmallO s)) := by
  unfold ref19_Small
  try dsimp only
  rw [loop_allG s.length (fun i => (s.getD i dO).1.length ≤ 60) (r := false) (by omega) ?_ ?_]
  · rw [ile_dec, len_eq]
    by_cases q : ∀ i, i < s.length → (s.getD i dO).1.length ≤ 60
    · rw [if_pos q]
      congr 1
      rw [Bool.eq_iff_iff, decide_eq_true_eq, decide_eq_true_eq]
      exact ⟨fun z => ⟨q, by omega⟩, fun z => by have := z.2; omega⟩
    · rw [if_neg q]
      congr 1
      symm
      rw [decide_eq_false_iff_not]
      exact fun z => q z.1
  · intro i hi
    try dsimp only
    rw [ilt_len hi, cond_true, inb_len hi, cond_true, get_nat, wrap_succ (by omega), ilt_dec, cond_dec, len_eq]
    by_cases q : (s.getD i dO).1.length ≤ 60
    · have q' : (List.getD s i ([], 0, 0)).1.length ≤ 60 := q
      rw [if_neg (by omega), if_pos q]
    · have q' : ¬ (List.getD s i ([], 0, 0)).1.length ≤ 60 := q
      rw [if_pos (by omega), if_neg q]
  · try dsimp only
    rw [ilt_end]; rfl
abbrev Al := Fr × List Ob × Sta
theorem law_small (x : Al) (h1 : x.1.2.2.length ≤ 9223372036854775807) (h2 : x.2.1.length ≤ 9223372036854775807) : law21_small K x = some (decide (SmallF x.1 ∧ SmallO x.2.1 ∧ SmallT x.2.2)) := by
  obtain ⟨f, s, a⟩ := x
  unfold law21_small
  try dsimp only at h1 h2 ⊢
  rw [ref_smallF f h1, bind_some, cond_dec, ref_smallO s h2, bind_some, cond_dec, ref_small8, bind_some]
  by_cases q1 : SmallF f
  · rw [if_pos q1]
    by_cases q2 : SmallO s
    · rw [if_pos q2]
      congr 1
      rw [Bool.eq_iff_iff, decide_eq_true_eq, decide_eq_true_eq]
      exact ⟨fun q => ⟨q1, q2, q⟩, fun q => q.2.2⟩
    · rw [if_neg q2, decide_eq_false fun q => q2 q.2.1]
  · rw [if_neg q1, decide_eq_false fun q => q1 q.1]
theorem g21 {p : Prop} [Decidable p] {X : Option Bool} (h : p → X = some true) : P.cond (P.not (decide p)) (P.bind (law21_fixed K ()) fun r => some r) X = some true := by
  rw [cond_ndec, fixed21, bind_some]
  by_cases q : p
  · rw [if_pos q]; exact h q
  · rw [if_neg q]
theorem g0 {X : Option Bool} (h : X = some true) : (P.bind (law21_fixed K ()) fun r => P.cond (P.not r) (P.bind (law21_fixed K ()) fun r => some r) X) = some true := by
  rw [fixed21, bind_some]
  exact h
end Go.PL.Cf
end
section
open Go Go.PG Go.PL
set_option linter.all false
namespace Go.PL.Cf
open Go.PL.Sto (Val Prp Ob dP dO Right)
theorem loop_stp {τ ρ σ : Type} (n : Nat) (s : Nat → τ) (p : Nat → Prop) [DecidablePred p] (r : ρ) {f : Int × τ → Option ((Int × τ) ⊕ (τ ⊕ ρ))} {A : τ → Option σ} {B : ρ → Option σ} (hn : n ≤ 1000000000000)
    (hs : ∀ i : Nat, i < n → (∀ j, j < i → p j) → f ((i : Int), s i) = some (if p i then .inl (((i + 1 : Nat) : Int), s (i + 1)) else .inr (.inr r))) (he : (∀ j, j < n → p j) → f ((n : Int), s n) = some (.inr (.inl (s n)))) :
    P.bind (P.iter K f (0, s 0)) (P.either A B) = if ∀ i, i < n → p i then A (s n) else B r := by
  by_cases q : ∀ i, i < n → p i
  · rw [if_pos q]
    have := iter_run (f := f) (fun i => ((i : Int), s i)) (.inl (s n)) n 0 K (by unfold K; omega) (fun j hj => by
      simp only [Nat.zero_add]
      rw [hs j hj fun k hk => q k (by omega), if_pos (q j hj)]) (by simpa using he q)
    rw [show ((0 : Nat) : Int) = 0 from rfl] at this
    rw [this, bind_some, either_inl]
  · rw [if_neg q]
    have hex : ∃ i, i < n ∧ ¬ p i := by
      apply Classical.byContradiction
      intro z
      exact q fun i hi => Classical.byContradiction fun y => z ⟨i, hi, y⟩
    -- the first one
    have first : ∀ m, (∃ i, i < m ∧ ¬ p i) → ∃ j, j < m ∧ ¬ p j ∧ ∀ i, i < j → p i := by
      intro m
      induction m with
      | zero => rintro ⟨i, hi, _⟩; omega
      | succ m ih =>
        rintro ⟨i, hi, hp⟩
        by_cases z : ∃ i, i < m ∧ ¬ p i
        · obtain ⟨j, h1, h2, h3⟩ := ih z
          exact ⟨j, by omega, h2, h3⟩
        · have : i = m := by
            apply Classical.byContradiction
            intro y
            exact z ⟨i, by omega, hp⟩
          subst this
          exact ⟨i, hi, hp, fun j hj => Classical.byContradiction fun y => z ⟨j, hj, y⟩⟩
    obtain ⟨j, h1, h2, h3⟩ := first n hex
    have := iter_run (f := f) (fun i => ((i : Int), s i)) (.inr r) j 0 K (by unfold K; omega) (fun k hk => by
      simp only [Nat.zero_add]
      rw [hs k (by omega) fun i hi => h3 i (by omega), if_pos (h3 k hk)]) (by
      simp only [Nat.zero_add]
      rw [hs j h1 h3, if_neg h2])
    rw [show ((0 : Nat) : Int) = 0 from rfl] at this
    rw [this, bind_some]
    rfl
theorem flat_take (X : List (List Int)) {i : Nat} (h : i < X.length) : (X.take (i + 1)).flatten = (X.take i).flatten ++ X.getD i [] := by
  rw [take_getD' h [], List.flatten_append]
  simp
theorem flat_le (X : List (List Int)) {m : Nat} (h : ∀ l, l ∈ X → l.length ≤ m) : X.flatten.length ≤ X.length * m := by
  induction X with
  | nil => simp
  | cons l X ih =>
    have h1 := h l (by simp)
    have h2 := ih fun a ha => h a (List.mem_cons_of_mem _ ha)
    simp only [List.flatten_cons, List.length_append, List.length_cons, Nat.add_mul, Nat.one_mul]
    omega
theorem flat_take_le (X : List (List Int)) (i : Nat) {m : Nat} (h : ∀ l, l ∈ X → l.length ≤ m) : (X.take i).flatten.length ≤ X.length * m := by
  have h1 := flat_le (X.take i) (m := m) fun l hl => h l (List.mem_of_mem_take hl)
  have : (X.take i).length ≤ X.length := by simp; omega
  exact Nat.le_trans h1 (Nat.mul_le_mul_right m this)
theorem wrap_is {x : Int} (h0 : -9223372036854775808 ≤ x) (h1 : x < 9223372036854775808) : P.wrap IntKind.i64 x = x := by
  unfold P.wrap IntKind.wrap
  simp only [IntKind.bits, IntKind.signed]
  simp
  omega
theorem getD_le {X : List (List Int)} {m : Nat} (h : ∀ l, l ∈ X → l.length ≤ m) (i : Nat) : (X.getD i []).length ≤ m := by
  by_cases hi : i < X.length
  · exact h _ (getD_mem hi [])
  · rw [List.getD_eq_getElem?_getD, List.getElem?_eq_none (by omega)]; simp
theorem concat_fill {ρ σ : Type} (X : List (List Int)) (hX : X.length ≤ 200000) (hl : ∀ l, l ∈ X → l.length ≤ 100000) {f : List Int × Int → Option ((List Int × Int) ⊕ (List Int ⊕ ρ))} {A : List Int → Option σ} {B : ρ → Option σ}
    (hf : f = fun (y : List Int × Int) => P.cond (P.ilt y.snd (P.len X)) (P.cond (P.inb y.snd (P.len X)) (P.cond (P.room (P.add (P.len y.fst) (P.len (P.get X y.snd []))) 8) (some (Sum.inl (P.app y.fst (P.get X y.snd []), P.wrap IntKind.i64 (P.add y.snd ((1 : Int)))))) none) none) (some (Sum.inr (Sum.inl y.fst)))) :
    P.bind (P.iter K f ([], (0 : Int))) (P.either A B) = A X.flatten := by
  have hx := fun i => flat_take_le X i hl
  have := iter_run (f := f) (fun i => ((X.take i).flatten, (i : Int))) (.inl X.flatten) X.length 0 K (by unfold K; omega) (fun j hj => by
    simp only [Nat.zero_add]
    rw [hf]
    simp only
    have h1 := getD_le hl j
    have h2 := hx j
    have h3 : X.length * 100000 ≤ 20000000000 := by omega
    rw [ilt_len hj, cond_true, inb_len hj, cond_true, get_nat, wrap_succ (by omega), flat_take X hj, show P.room (P.add (P.len (X.take j).flatten) (P.len (X.getD j []))) 8 = true by
      unfold P.room P.add
      rw [decide_eq_true_eq, len_eq, len_eq]
      omega, cond_true]
    rfl) (by
    simp only [Nat.zero_add]
    rw [hf]
    simp only
    rw [ilt_end, List.take_length]
    rfl)
  rw [show ((0 : Nat) : Int) = 0 from rfl] at this
  simp only [List.take_zero, List.flatten_nil] at this
  rw [this, bind_some]
  rfl
theorem concat_goal {ρ : Type} (X : List (List Int)) (hX : X.length ≤ 200000) (hl : ∀ l, l ∈ X → l.length ≤ 100000) (F : List Int → Option ρ) : (P.bind (P.iter K (fun (y : Int × Int) => P.cond (P.ilt y.snd (P.len X)) (P.cond (P.inb y.snd (P.len X)) (P.cond (P.ilt (P.wrap IntKind.i64 (P.add y.fst (P.len (P.get X y.snd [])))) ((0 : Int))) none (some (Sum.inl (P.wrap IntKind.i64 (P.add y.fst (P.len (P.get X y.snd []))), P.wrap IntKind.i64 (P.add y.snd ((1 : Int))))))) none) (some (Sum.inr (Sum.inl y.fst)))) ((0 : Int), (0 : Int))) (P.either (fun (z : Int) => P.cond (P.ilt z ((0 : Int))) none (P.cond (P.ilt ((0 : Int)) (P.wrap IntKind.i64 (P.sub z (P.wrap IntKind.i64 (P.sub ((0 : Int)) ((0 : Int))))))) (P.cond (P.cut ((0 : Int)) ((0 : Int)) ((0 : Int))) (P.cond (P.ilt ((0 : Int)) (P.wrap IntKind.i64 (P.sub z (P.wrap IntKind.i64 (P.sub ((0 : Int)) ((0 : Int))))))) (P.cond (P.room (P.wrap IntKind.i64 (P.sub z (P.wrap IntKind.i64 (P.sub ((0 : Int)) ((0 : Int)))))) 8) (P.cond (P.cut ((0 : Int)) ((0 : Int)) (P.len (P.rep (P.wrap IntKind.i64 (P.sub z (P.wrap IntKind.i64 (P.sub ((0 : Int)) ((0 : Int)))))) ((0 : Int))))) (P.bind (P.iter K (fun (y : List Int × Int) => P.cond (P.ilt y.snd (P.len X)) (P.cond (P.inb y.snd (P.len X)) (P.cond (P.room (P.add (P.len y.fst) (P.len (P.get X y.snd []))) 8) (some (Sum.inl (P.app y.fst (P.get X y.snd []), P.wrap IntKind.i64 (P.add y.snd ((1 : Int)))))) none) none) (some (Sum.inr (Sum.inl y.fst)))) (P.sub_ (P.rep (P.wrap IntKind.i64 (P.sub z (P.wrap IntKind.i64 (P.sub ((0 : Int)) ((0 : Int)))))) ((0 : Int))) ((0 : Int)) ((0 : Int)), (0 : Int))) (P.either (fun (z : List Int) => F z) fun (r : ρ) => some r)) none) none) none) none) (P.bind (P.iter K (fun (y : List Int × Int) => P.cond (P.ilt y.snd (P.len X)) (P.cond (P.inb y.snd (P.len X)) (P.cond (P.room (P.add (P.len y.fst) (P.len (P.get X y.snd []))) 8) (some (Sum.inl (P.app y.fst (P.get X y.snd []), P.wrap IntKind.i64 (P.add y.snd ((1 : Int)))))) none) none) (some (Sum.inr (Sum.inl y.fst)))) ([], (0 : Int))) (P.either (fun (z : List Int) => F z) fun (r : ρ) => some r)))) fun (r : ρ) => some r)) = F X.flatten := by
  have hx := fun i => flat_take_le X i hl
  have h3 : X.length * 100000 ≤ 20000000000 := by omega
  have run := iter_run (f := fun (y : Int × Int) => P.cond (P.ilt y.snd (P.len X)) (P.cond (P.inb y.snd (P.len X)) (P.cond (P.ilt (P.wrap IntKind.i64 (P.add y.fst (P.len (P.get X y.snd [])))) ((0 : Int))) none (some (Sum.inl (P.wrap IntKind.i64 (P.add y.fst (P.len (P.get X y.snd []))), P.wrap IntKind.i64 (P.add y.snd ((1 : Int))))))) none) (some (Sum.inr (Sum.inl y.fst : Int ⊕ ρ))))
    (fun i => ((((X.take i).flatten.length : Nat) : Int), (i : Int))) (.inl ((X.flatten.length : Nat) : Int)) X.length 0 K (by unfold K; omega) (fun j hj => by
    simp only [Nat.zero_add]
    have h1 := getD_le hl j
    have h2 := hx j
    rw [ilt_len hj, cond_true, inb_len hj, cond_true, get_nat, wrap_succ (by omega), flat_take X hj]
    have e : P.wrap IntKind.i64 (P.add (((X.take j).flatten.length : Nat) : Int) (P.len (X.getD j []))) = (((X.take j).flatten ++ X.getD j []).length : Nat) := by
      rw [len_eq]
      unfold P.add
      rw [wrap_is (by omega) (by omega), List.length_append]
      omega
    rw [e, ilt_dec, cond_dec, if_neg (by omega)]) (by
    simp only [Nat.zero_add]
    rw [ilt_end, List.take_length]
    rfl)
  rw [show ((0 : Nat) : Int) = 0 from rfl] at run
  simp only [List.take_zero, List.flatten_nil, List.length_nil] at run
  rw [show ((0 : Nat) : Int) = 0 from rfl] at run
  rw [run, bind_some]
  show P.cond _ _ _ = _
  have hL := hx X.length
  rw [List.take_length] at hL
  have e0 : P.wrap IntKind.i64 (P.sub ((0 : Int)) ((0 : Int))) = 0 := by decide
  have e1 : P.wrap IntKind.i64 (P.sub ((X.flatten.length : Nat) : Int) 0) = ((X.flatten.length : Nat) : Int) := by
    unfold P.sub
    rw [wrap_is (by omega) (by omega)]
    omega
  have a1 : P.ilt ((X.flatten.length : Nat) : Int) 0 = false := by rw [ilt_dec]; exact decide_eq_false (by omega)
  rw [e0, e1]
  by_cases h0 : (0 : Int) < ((X.flatten.length : Nat) : Int)
  · have a2 : P.ilt 0 ((X.flatten.length : Nat) : Int) = true := by rw [ilt_dec]; exact decide_eq_true h0
    rw [a2, cond_true, show P.cut ((0 : Int)) ((0 : Int)) ((0 : Int)) = true by decide, cond_true, cond_true, show P.room ((X.flatten.length : Nat) : Int) 8 = true by
      unfold P.room
      rw [decide_eq_true_eq]
      omega, cond_true, show P.cut ((0 : Int)) ((0 : Int)) (P.len (P.rep ((X.flatten.length : Nat) : Int) ((0 : Int)))) = true by
      unfold P.cut
      rw [len_eq]
      simp, cond_true, show P.sub_ (P.rep ((X.flatten.length : Nat) : Int) ((0 : Int))) 0 0 = [] by simp [P.sub_]]
    exact concat_fill X hX hl rfl
  · have a2 : P.ilt 0 ((X.flatten.length : Nat) : Int) = false := by rw [ilt_dec]; exact decide_eq_false h0
    rw [a2, cond_false]
    exact concat_fill X hX hl rfl
end Go.PL.Cf
end
section
open Go Go.PG Go.PL
set_option linter.all false
namespace Go.PL.Cf
open Go.PL.Sto (Val Prp Ob dP dO Right)
abbrev eqI : Int → Int → Bool := fun x y => P.ieq x y
def mk (out : List Int) : List (Int × Bool) := out.map fun x => (x, true)
theorem mval_mk (x : Int) : ∀ out : List Int, P.mval eqI (mk out) x false = decide (x ∈ out) := by
  intro out
  induction out with
  | nil => rfl
  | cons a l ih =>
    have e : P.mval eqI (mk (a :: l)) x false = match eqI x a with
      | true => true
      | false => P.mval eqI (mk l) x false := rfl
    rw [e, ih]
    have h : eqI x a = decide (x = a) := ieq_eq x a
    rw [h]
    by_cases q : x = a
    · subst q; simp
    · rw [decide_eq_false q]; simp [q]
theorem mput_mk (x : Int) : ∀ out : List Int, x ∉ out → P.mput eqI (mk out) x true = mk (out ++ [x]) := by
  intro out
  induction out with
  | nil => intro _; rfl
  | cons a l ih =>
    intro h
    have e : P.mput eqI (mk (a :: l)) x true = match eqI x a with
      | true => (x, true) :: mk l
      | false => (a, true) :: P.mput eqI (mk l) x true := rfl
    rw [e, ih (fun z => h (List.mem_cons_of_mem _ z))]
    have h2 : eqI x a = decide (x = a) := ieq_eq x a
    rw [h2, decide_eq_false (fun z => h (by rw [z]; simp))]
    rfl
abbrev nz (x : Int) : Bool := decide (x ≠ -1)
def PZ (z : List Int) (N : Nat) (i : Nat) : Prop := z.getD i 0 = -1 ∨ (0 ≤ z.getD i 0 ∧ z.getD i 0 < N ∧ z.getD i 0 ∉ z.take i)
instance (z : List Int) (N i : Nat) : Decidable (PZ z N i) := by unfold PZ; exact inferInstance
def Apart (z : List Int) (N : Nat) : Prop := (∀ x, x ∈ z → 0 ≤ x ∧ x < N) ∧ z.Nodup
instance (z : List Int) (N : Nat) : Decidable (Apart z N) := by unfold Apart; exact inferInstance
theorem pz_iff (z : List Int) (N : Nat) : (∀ i, i < z.length → PZ z N i) ↔ Apart (z.filter nz) N := by
  have gd : ∀ {i}, (h : i < z.length) → z.getD i 0 = z[i] := fun h => by simp [List.getD_eq_getElem?_getD, h]
  constructor
  · intro h
    refine ⟨fun x hx => ?_, ?_⟩
    · rw [List.mem_filter] at hx
      obtain ⟨i, hi, rfl⟩ := List.getElem_of_mem hx.1
      have := h i hi
      unfold PZ at this
      rw [gd hi] at this
      rcases this with q | q
      · simp [nz, q] at hx
      · exact ⟨q.1, q.2.1⟩
    · show List.Pairwise _ _
      rw [List.pairwise_filter, List.pairwise_iff_getElem]
      intro i j hi hj hij p1 p2 e
      have := h j hj
      unfold PZ at this
      rw [gd hj] at this
      rcases this with q | q
      · simp [nz, q] at p2
      · refine q.2.2 ?_
        rw [← e]
        rw [List.mem_take_iff_getElem]
        exact ⟨i, by omega, rfl⟩
  · rintro ⟨h1, h2⟩ i hi
    have h2 : List.Pairwise _ _ := h2
    rw [List.pairwise_filter, List.pairwise_iff_getElem] at h2
    unfold PZ
    rw [gd hi]
    by_cases q : z[i] = -1
    · exact .inl q
    · right
      have hm : z[i] ∈ z.filter nz := by
        rw [List.mem_filter]
        exact ⟨List.getElem_mem hi, by simp [nz, q]⟩
      refine ⟨(h1 _ hm).1, (h1 _ hm).2, fun hc => ?_⟩
      rw [List.mem_take_iff_getElem] at hc
      obtain ⟨j, hj, e⟩ := hc
      exact h2 j i (by omega) hi (by omega) (by simp [nz, e, q]) (by simp [nz, q]) e
theorem seen_loop {σ : Type} (z : List Int) (N : Nat) (hz : z.length ≤ 1000000) {f : Int × List (Int × Bool) → Option ((Int × List (Int × Bool)) ⊕ (List (Int × Bool) ⊕ Bool))} {A : List (Int × Bool) → Option σ} {B : Bool → Option σ}
    (hf : f = fun (y : Int × List (Int × Bool)) => P.cond (P.ilt y.fst (P.len z)) (P.cond (P.inb y.fst (P.len z)) (P.cond (P.ieq (P.get z y.fst 0) (-1)) (some (Sum.inl (P.wrap IntKind.i64 (P.add y.fst 1), y.snd))) (P.cond (P.ilt (P.get z y.fst 0) 0) (some (Sum.inr (Sum.inr false))) (P.cond (P.ile (N : Int) (P.get z y.fst 0)) (some (Sum.inr (Sum.inr false))) (P.cond (P.mval eqI y.snd (P.get z y.fst 0) false) (some (Sum.inr (Sum.inr false))) (some (Sum.inl (P.wrap IntKind.i64 (P.add y.fst 1), P.mput eqI y.snd (P.get z y.fst 0) true))))))) none) (some (Sum.inr (Sum.inl y.snd)))) :
    P.bind (P.iter K f (0, [])) (P.either A B) = if Apart (z.filter nz) N then A (mk (z.filter nz)) else B false := by
  have key := loop_stp (f := f) (A := A) (B := B) z.length (fun i => mk ((z.take i).filter nz)) (PZ z N) false (by omega) (fun i hi hp => by
    rw [hf]
    simp only
    rw [ilt_len hi, cond_true, inb_len hi, cond_true]
    simp only [get_nat]
    rw [wrap_succ (by omega), ieq_eq, cond_dec, ilt_dec, cond_dec, ile_dec, cond_dec, mval_mk, cond_dec]
    have ht : z.take (i + 1) = z.take i ++ [z.getD i 0] := take_getD' hi 0
    rw [ht, List.filter_append]
    have hPZ : PZ z N i ↔ (z.getD i 0 = -1 ∨ (0 ≤ z.getD i 0 ∧ z.getD i 0 < N ∧ z.getD i 0 ∉ z.take i)) := Iff.rfl
    generalize z.getD i 0 = x at hPZ ⊢
    by_cases h1 : x = -1
    · rw [if_pos h1, if_pos (hPZ.2 (.inl h1))]
      simp [nz, h1]
    · rw [if_neg h1]
      by_cases h2 : x < 0
      · rw [if_pos h2, if_neg (fun y => by rcases hPZ.1 y with q | q; exact h1 q; omega)]
      · rw [if_neg h2]
        by_cases h3 : (N : Int) ≤ x
        · rw [if_pos h3, if_neg (fun y => by rcases hPZ.1 y with q | q; exact h1 q; omega)]
        · rw [if_neg h3]
          by_cases h4 : x ∈ (z.take i).filter nz
          · rw [if_pos h4, if_neg (fun y => by rcases hPZ.1 y with q | q; exact h1 q; exact q.2.2 ((List.mem_filter.1 h4).1))]
          · have h5 : x ∉ z.take i := fun q => h4 (by rw [List.mem_filter]; exact ⟨q, by simp [nz, h1]⟩)
            rw [if_neg h4, if_pos (hPZ.2 (.inr ⟨by omega, by omega, h5⟩)), mput_mk x _ h4]
            simp [nz, h1]) (fun _ => by
    rw [hf]
    simp only
    rw [ilt_end]
    rfl)
  simp only [List.take_zero, List.filter_nil, List.take_length] at key
  rw [show mk [] = [] from rfl] at key
  rw [key]
  by_cases q : Apart (z.filter nz) N
  · rw [if_pos q, if_pos ((pz_iff z N).2 q)]
  · rw [if_neg q, if_neg fun h => q ((pz_iff z N).1 h)]
def allF (f : Fr) : List Int := f.2.2.flatten ++ f.2.1.filter nz
def MayF (f : Fr) (s : List Ob) : Prop := Sto.MayS s ∧ f.2.1.length = f.2.2.length ∧ (∀ i, i < f.1.length → Sto.PropOk s.length f.1 i) ∧ Apart (allF f) s.length
instance (f : Fr) (s : List Ob) : Decidable (MayF f s) := by unfold MayF; exact inferInstance
theorem apart_mid {f : Fr} {N : Nat} : (Apart ((f.2.2.flatten ++ f.2.1).filter nz) N ∧ (-1 : Int) ∉ f.2.2.flatten) ↔ Apart (allF f) N := by
  unfold allF
  rw [List.filter_append]
  constructor
  · rintro ⟨h1, h2⟩
    have e : f.2.2.flatten.filter nz = f.2.2.flatten := by
      rw [List.filter_eq_self]
      intro x hx
      have : x ≠ -1 := fun q => h2 (q ▸ hx)
      simp [nz, this]
    rw [e] at h1
    exact h1
  · intro h
    have h2 : (-1 : Int) ∉ f.2.2.flatten := fun q => by
      have := h.1 (-1) (List.mem_append_left _ q)
      omega
    have e : f.2.2.flatten.filter nz = f.2.2.flatten := by
      rw [List.filter_eq_self]
      intro x hx
      have : x ≠ -1 := fun q => h2 (q ▸ hx)
      simp [nz, this]
    rw [e]
    exact ⟨h, h2⟩
theorem clones_eq (k : Nat) (x : List (List Int)) (h : x.length ≤ 1000000) : slices_Clones_int k x = some x := by
  have hr : P.room (P.add (P.len (P.nil (List Int))) (P.len x)) 24 = true := by
    unfold P.room
    rw [decide_eq_true_eq, len_eq, len_eq]
    unfold P.add P.nil
    simp
    omega
  unfold slices_Clones_int
  try dsimp only
  rw [hr, cond_true]
  have e : P.app [] x = x := rfl
  rw [e, ilt_dec, cond_dec, len_eq]
  by_cases h0 : 0 < (x.length : Int)
  · rw [if_pos h0]; rfl
  · rw [if_neg h0]
    have : x = [] := List.eq_nil_of_length_eq_zero (by omega)
    subst this
    exact amb_same _
theorem vars_step {σ : Type} (f : Fr) (s : List Ob) {i : Nat} (hi : i < f.1.length) (hf : FewF f) (X Y : σ) : P.cond (P.not (decide (Right s.length (f.1.getD i dP).2))) X (P.cond (P.ilt 0 (i : Int)) (P.cond (P.not (P.slt (f.1.getD (i - 1) dP).1 (f.1.getD i dP).1)) X Y) Y) = if Sto.PropOk s.length f.1 i then Y else X := by
  rw [cond_ndec, slt_dec, cond_ndec, ilt_dec, cond_dec]
  by_cases h1 : Right s.length (f.1.getD i dP).2
  · rw [if_pos h1]
    by_cases h2 : (0 : Int) < (i : Int)
    · rw [if_pos h2]
      by_cases h3 : ltS (f.1.getD (i - 1) dP).1 (f.1.getD i dP).1
      · rw [if_pos h3, if_pos (show Sto.PropOk s.length f.1 i from ⟨h1, fun _ => h3⟩)]
      · rw [if_neg h3, if_neg fun q : Sto.PropOk s.length f.1 i => h3 (q.2 (by omega))]
    · rw [if_neg h2, if_pos (show Sto.PropOk s.length f.1 i from ⟨h1, fun q => absurd q (by omega)⟩)]
  · rw [if_neg h1, if_neg fun q : Sto.PropOk s.length f.1 i => h1 q.1]
theorem at_may (f : Fr) (s : List Ob) (hf : FewF f) (hs : FewO s) (ht : f.2.2.flatten.length + f.2.1.length ≤ 1000000) : conform_May K (f, s) = some (decide (MayF f s)) := by
  unfold conform_May
  try dsimp only
  rw [Sto.st_may s (fits_few hs), bind_some, cond_ndec]
  by_cases h1 : ¬ (Sto.MayS s)
  · rw [if_neg h1, decide_eq_false fun q : MayF f s => h1 q.1]
  replace h1 := Classical.byContradiction h1
  rw [if_pos h1, ieq_eq, cond_ndec, len_eq, len_eq]
  by_cases h2 : ¬ (f.2.1.length = f.2.2.length)
  · rw [if_neg (by omega), decide_eq_false fun q : MayF f s => h2 q.2.1]
  replace h2 := Classical.byContradiction h2
  rw [if_pos (by omega)]
  rw [loop_all f.1.length (fun i => Sto.PropOk s.length f.1 i) (r := false) (by have := hf.1; omega) ?_ ?_]
  · by_cases h3 : ¬ (∀ i, i < f.1.length → Sto.PropOk s.length f.1 i)
    · rw [if_neg h3, decide_eq_false fun q : MayF f s => h3 q.2.2.1]
    replace h3 := Classical.byContradiction h3
    rw [if_pos h3, clones_eq K _ (by have := hf.2.2.1; omega), bind_some, show P.room (P.add (P.len f.2.2) (P.len [f.2.1])) 24 = true by
      have := hf.2.2.1
      unfold P.room P.add
      rw [decide_eq_true_eq, len_eq, len_eq]
      simp
      omega, cond_true]
    have e1 : P.app f.2.2 [f.2.1] = f.2.2 ++ [f.2.1] := rfl
    rw [e1]
    have hX : (f.2.2 ++ [f.2.1]).length ≤ 200000 := by have := hf.2.2.1; simp; omega
    have hl : ∀ l, l ∈ f.2.2 ++ [f.2.1] → l.length ≤ 100000 := fun l hl => by
      rcases List.mem_append.1 hl with q | q
      · exact hf.2.2.2 l q
      · simp only [List.mem_singleton] at q; subst q; exact hf.2.1
    refine (concat_goal (f.2.2 ++ [f.2.1]) hX hl _).trans ?_
    have e2 : (f.2.2 ++ [f.2.1]).flatten = f.2.2.flatten ++ f.2.1 := by simp
    rw [e2]
    refine (seen_loop (f.2.2.flatten ++ f.2.1) s.length (by rw [List.length_append]; omega) (by simp only [len_eq])).trans ?_
    by_cases h4 : ¬ (Apart ((f.2.2.flatten ++ f.2.1).filter nz) s.length)
    · rw [if_neg h4, decide_eq_false fun q : MayF f s => h4 (apart_mid.2 q.2.2.2).1]
    replace h4 := Classical.byContradiction h4
    rw [if_pos h4]
    refine (concat_goal f.2.2 (by have := hf.2.2.1; omega) hf.2.2.2 _).trans ?_
    rw [loop_any f.2.2.flatten 0 (fun x => -1 = x) false (by omega) ?_ ?_]
    · by_cases h5 : (-1 : Int) ∈ f.2.2.flatten
      · rw [if_pos, decide_eq_false fun q : MayF f s => (apart_mid.2 q.2.2.2).2 h5]
        rw [List.any_eq_true]
        exact ⟨-1, h5, by simp⟩
      · rw [if_neg, decide_eq_true (show MayF f s from ⟨h1, h2, h3, apart_mid.1 ⟨h4, h5⟩⟩)]
        · rfl
        · rw [List.any_eq_true]
          rintro ⟨x, hx, q⟩
          simp only [decide_eq_true_eq] at q
          exact h5 (q ▸ hx)
    · intro i hi
      try dsimp only
      rw [ilt_len hi, cond_true, inb_len hi, cond_true, get_nat, ieq_eq, cond_dec, ile_nat, wrap_succ (by omega)]
      by_cases q : (-1 : Int) = f.2.2.flatten.getD i 0
      · rw [if_pos q, if_pos q]; rfl
      · rw [if_neg q, if_neg q]
    · try dsimp only
      rw [ilt_end]; rfl
  · intro i hi
    have := hf.1
    try dsimp only
    rw [ilt_len hi, cond_true, inb_len hi, cond_true]
    simp only [get_nat]
    rw [Sto.st_right, bind_some, wrap_succ (by omega)]
    by_cases h0 : 0 < i
    · rw [wrap_pred h0 (by omega)]
      have hin : P.inb ((i - 1 : Nat) : Int) (P.len f.1) = true := inb_len (by omega)
      rw [hin, cond_true, get_nat]
      have := vars_step f s hi hf (some (Sum.inr (Sum.inr false)) : Option (Int ⊕ (Unit ⊕ Bool))) (some (.inl ((i + 1 : Nat) : Int)))
      rw [show (if Sto.PropOk s.length f.1 i then (Sum.inl ((i + 1 : Nat) : Int) : Int ⊕ (Unit ⊕ Bool)) else .inr (.inr false)) = _ from rfl]
      refine this.trans ?_
      split <;> rfl
    · have h00 : i = 0 := by omega
      subst h00
      have := vars_step f s hi hf (some (Sum.inr (Sum.inr false)) : Option (Int ⊕ (Unit ⊕ Bool))) (some (.inl ((0 + 1 : Nat) : Int)))
      have e0 : P.ilt 0 ((0 : Nat) : Int) = false := rfl
      rw [e0, cond_false] at this ⊢
      refine this.trans ?_
      split <;> rfl
  · try dsimp only
    rw [ilt_end]; rfl
end Go.PL.Cf
end
section
open Go Go.PG Go.PL
set_option linter.all false
namespace Go.PL.Cf
open Go.PL.Sto (Val Prp Ob dP dO Right setS withM ownM)
theorem flat_small {f : Fr} (h : SmallF f) : f.2.2.flatten.length + f.2.1.length ≤ 1000000 := by
  have h1 := flat_le f.2.2 (m := 30) fun l hl => by simpa using List.all_eq_true.1 h.1 l hl
  have := h.2.2.1
  have := h.2.2.2
  omega
end Go.PL.Cf
end
section
open Go Go.PG Go.PL
set_option linter.all false
namespace Go.PL.Cf
open Go.PL.Sto (Val Prp Ob dP dO Right setS withM ownM)
theorem lt_bytes21 {l : Nat} (h : l * BAtom TAtom ≤ reachBytes) : l ≤ 8796093022000 := by
  unfold BAtom at h
  rw [if_pos rfl] at h
  unfold reachBytes at h
  omega
theorem glen {n : Nat} {X : Option Bool} (h : n ≤ 30 → X = some true) : P.cond (P.ilt 30 (n : Int)) (P.bind (law21_fixed K ()) fun r => some r) X = some true := by
  rw [ilt_dec, cond_dec, fixed21, bind_some]
  by_cases q : (30 : Int) < (n : Int)
  · rw [if_pos q]
  · rw [if_neg q]; exact h (by omega)
theorem var_norm {a : Sta} (h : MayS a) (n : ByteArray) : var a.2.1 n = norm (var a.2.1 n) := by
  unfold var getV
  cases g : a.2.1.find? fun b => decide (b.1 = n) with
  | none => rfl
  | some b => exact h.1.2 b (List.mem_of_find?_eq_some g)
end Go.PL.Cf
end
section
open Go Go.PG Go.PL
set_option linter.all false
namespace Go.PL.Cf
open Go.PL.Sto (Val Prp Ob dP dO Right setS withM ownM lookM getM tell)
end Go.PL.Cf
end
section
open Go Go.PG Go.PL
set_option linter.all false
namespace Go.PL.Cf
open Go.PL.Sto (Val Prp Ob dP dO Right)
def nwE (f : Fr) (S : Nat) (n : Int) (i : Nat) : Int := if i = S then n else if i < f.2.1.length then f.2.1.getD i 0 else -1
def odE (f : Fr) (S : Nat) (i : Nat) : List Int := f.2.2.getD i [] ++ if i = S ∧ i < f.2.1.length ∧ f.2.1.getD i 0 ≠ -1 then [f.2.1.getD i 0] else []
def nwL (f : Fr) (S : Nat) (n : Int) : List Int := (List.range (max f.2.1.length (S + 1))).map (nwE f S n)
def odL (f : Fr) (S : Nat) : List (List Int) := (List.range (max f.2.2.length (S + 1))).map (odE f S)
def freshF (f : Fr) (site n : Int) : Fr := if site < 0 ∨ 2000 < site then f else (f.1, nwL f site.toNat n, odL f site.toNat)
theorem ile_nn (i n : Nat) : P.ile (i : Int) (n : Int) = decide (i ≤ n) := by rw [ile_dec, decide_eq_decide]; omega
theorem inb_nn (i n : Nat) : P.inb (i : Int) (n : Int) = decide (i < n) := by rw [Bool.eq_iff_iff, inb_iff, decide_eq_true_eq]; omega
theorem room_le {a b n : Nat} (h : a + b ≤ 1000000000) (hn : n ≤ 64) : P.room (P.add (a : Int) (b : Int)) n = true := by
  rw [room_nat]
  have := Nat.mul_le_mul h hn
  omega
abbrev wr (l : List Int) : PUnit.{1} × Option (List Int) := (PUnit.unit, some l)
theorem dall_map : ∀ l : List (List Int), P.dall (l.map wr) = some l := by
  intro l
  induction l with
  | nil => rfl
  | cons a l ih =>
    show P.dall ((PUnit.unit, some a) :: l.map wr) = _
    unfold P.dall
    rw [ih]
theorem cloneP (k : Nat) (x : List Prp) (h : x.length ≤ 1000000) : slices_Clone_api_Prop_api_Prop k x = some x := by
  have hr : P.room (P.add (P.len (P.nil Prp)) (P.len x)) 32 = true := by
    rw [len_eq, len_eq]
    exact room_le (by show 0 + x.length ≤ _; omega) (by omega)
  unfold slices_Clone_api_Prop_api_Prop
  try dsimp only
  rw [hr, cond_true]
  have e : P.app [] x = x := rfl
  rw [e, ilt_dec, cond_dec, len_eq]
  by_cases h0 : 0 < (x.length : Int)
  · rw [if_pos h0]; rfl
  · rw [if_neg h0]
    have : x = [] := List.eq_nil_of_length_eq_zero (by omega)
    subst this
    exact amb_same _
theorem loop_ns {τ ρ σ : Type} (n : Nat) (s : Nat → τ) (s0 e : τ) {f : τ → Option (τ ⊕ (τ ⊕ ρ))} {A : τ → Option σ} {B : ρ → Option σ} (hn : n ≤ 1000000000) (h0 : s 0 = s0) (h1 : s n = e)
    (hs : ∀ i : Nat, i < n → f (s i) = some (.inl (s (i + 1)))) (he : f e = some (.inr (.inl e))) :
    P.bind (P.iter K f s0) (P.either A B) = A e := by
  subst h0; subst h1
  have := iter_run (f := f) s (.inl (s n)) n 0 K (by unfold K; omega) (fun j hj => by
    simp only [Nat.zero_add]
    exact hs j hj) (by simpa using he)
  rw [this, bind_some]
  rfl
theorem pad_nw (f : Fr) (S : Nat) (n : Int) : (f.2.1 ++ List.replicate (S + 1 - f.2.1.length) (-1)).set S n = nwL f S n := by
  apply List.ext_getElem?
  intro i
  unfold nwL
  rw [List.getElem?_map]
  by_cases h : i < max f.2.1.length (S + 1)
  · rw [List.getElem?_range h]
    have e : nwE f S n i = if i = S then n else if i < f.2.1.length then f.2.1.getD i 0 else -1 := rfl
    show _ = some (nwE f S n i)
    rw [e, List.getElem?_set]
    by_cases q : S = i
    · rw [if_pos q, if_pos q.symm, if_pos (by simp; omega)]
    · rw [if_neg q, if_neg (fun z => q z.symm), List.getElem?_append]
      by_cases q2 : i < f.2.1.length
      · rw [if_pos q2, if_pos q2, List.getD_eq_getElem?_getD, List.getElem?_eq_getElem q2]; rfl
      · rw [if_neg q2, if_neg q2, List.getElem?_replicate, if_pos (by omega)]
  · rw [List.getElem?_eq_none (by simp; omega), List.getElem?_eq_none (by simp; omega)]; rfl
theorem pad_get (f : Fr) (S : Nat) : (f.2.1 ++ List.replicate (S + 1 - f.2.1.length) (-1)).getD S 0 = if S < f.2.1.length then f.2.1.getD S 0 else -1 := by
  rw [List.getD_eq_getElem?_getD, List.getElem?_append]
  by_cases q2 : S < f.2.1.length
  · rw [if_pos q2, if_pos q2, List.getD_eq_getElem?_getD]
  · rw [if_neg q2, if_neg q2, List.getElem?_replicate, if_pos (by omega)]; rfl
theorem pad_od (f : Fr) (S : Nat) : f.2.2 ++ List.replicate (S + 1 - f.2.2.length) [] = (List.range (max f.2.2.length (S + 1))).map fun i => f.2.2.getD i [] := by
  apply List.ext_getElem?
  intro i
  rw [List.getElem?_map]
  by_cases h : i < max f.2.2.length (S + 1)
  · rw [List.getElem?_range h]
    show _ = some (f.2.2.getD i [])
    rw [List.getElem?_append]
    by_cases q2 : i < f.2.2.length
    · rw [if_pos q2, List.getD_eq_getElem?_getD, List.getElem?_eq_getElem q2]; rfl
    · rw [if_neg q2, List.getElem?_replicate, if_pos (by omega), List.getD_eq_getElem?_getD, List.getElem?_eq_none (by omega)]; rfl
  · rw [List.getElem?_eq_none (by simp; omega), List.getElem?_eq_none (by simp; omega)]; rfl
theorem od_set (f : Fr) (S : Nat) (c : Prop) [Decidable c] (hc : c ↔ S < f.2.1.length ∧ f.2.1.getD S 0 ≠ -1) :
    (if c then (f.2.2 ++ List.replicate (S + 1 - f.2.2.length) []).set S ((f.2.2 ++ List.replicate (S + 1 - f.2.2.length) []).getD S [] ++ [f.2.1.getD S 0]) else f.2.2 ++ List.replicate (S + 1 - f.2.2.length) []) = odL f S := by
  rw [pad_od]
  apply List.ext_getElem?
  intro i
  unfold odL
  rw [List.getElem?_map]
  by_cases h : i < max f.2.2.length (S + 1)
  · rw [List.getElem?_range h]
    show _ = some (odE f S i)
    unfold odE
    by_cases q : c
    · rw [if_pos q, List.getElem?_set]
      by_cases q2 : S = i
      · rw [if_pos q2, if_pos (by simp; omega), if_pos ⟨q2.symm, by rw [← q2]; exact hc.1 q⟩]
        rw [List.getD_eq_getElem?_getD (l := List.map _ _), List.getElem?_map, List.getElem?_range (by omega), ← q2]
        rfl
      · rw [if_neg q2, if_neg (fun z => q2 z.1.symm), List.getElem?_map, List.getElem?_range h, List.append_nil]
        rfl
    · rw [if_neg q, if_neg (fun z => q (hc.2 (by rw [← z.1]; exact z.2))), List.getElem?_map, List.getElem?_range h, List.append_nil]
      rfl
  · rw [List.getElem?_eq_none (l := List.range _) (by simp; omega)]
    split
    · rw [List.getElem?_eq_none (by simp; omega)]; rfl
    · rw [List.getElem?_eq_none (by simp; omega)]; rfl
theorem at_fresh (f : Fr) (site n : Int) (hf : FewF f) : conform_Fresh K (f, site, n) = some (freshF f site n) := by
  obtain ⟨h1, h2, h3, h4⟩ := hf
  unfold conform_Fresh
  try dsimp only
  rw [cloneP K _ (by omega), bind_some, cloneI K _ (by omega), bind_some]
  rw [loop_st f.2.2.length (fun i => (f.1, f.2.1, (f.2.2.take i).map wr)) (f.1, f.2.1, []) (f.1, f.2.1, f.2.2.map wr) (by omega) (by simp) (by simp) ?_ ?_]
  · try dsimp only
    unfold freshF
    rw [ilt_dec, cond_dec, ilt_dec, cond_dec, dall_map, bind_some]
    by_cases g1 : site < 0
    · rw [if_pos g1, if_pos (.inl g1)]
    rw [if_neg g1]
    by_cases g2 : 2000 < site
    · rw [if_pos g2, if_pos (.inr g2)]
    rw [if_neg g2, if_neg (by omega)]
    obtain ⟨S, rfl⟩ := Int.eq_ofNat_of_zero_le (by omega : 0 ≤ site)
    simp only [Int.toNat_natCast]
    have hS : S ≤ 2000 := by omega
    rw [loop_ns (S + 1 - f.2.1.length) (fun i => (f.1, f.2.1 ++ List.replicate i (-1), f.2.2.map wr)) (f.1, f.2.1, f.2.2.map wr) (f.1, f.2.1 ++ List.replicate (S + 1 - f.2.1.length) (-1), f.2.2.map wr) (by omega) (by simp) (by simp) ?_ ?_]
    · try dsimp only
      rw [loop_ns (S + 1 - f.2.2.length) (fun i => (f.1, f.2.1 ++ List.replicate (S + 1 - f.2.1.length) (-1), (f.2.2 ++ List.replicate i []).map wr)) (f.1, f.2.1 ++ List.replicate (S + 1 - f.2.1.length) (-1), f.2.2.map wr) (f.1, f.2.1 ++ List.replicate (S + 1 - f.2.1.length) (-1), (f.2.2 ++ List.replicate (S + 1 - f.2.2.length) []).map wr) (by omega) (by simp) (by simp) ?_ ?_]
      · try dsimp only
        have e1 := pad_nw f S n
        have e2 := pad_get f S
        have e3 := od_set f S ((if S < f.2.1.length then f.2.1.getD S 0 else -1) ≠ -1) (by
          by_cases q : S < f.2.1.length
          · rw [if_pos q]; exact ⟨fun z => ⟨q, z⟩, fun z => z.2⟩
          · rw [if_neg q]; exact ⟨fun z => absurd rfl z, fun z => absurd z.1 q⟩)
        have l1 : S < (f.2.1 ++ List.replicate (S + 1 - f.2.1.length) (-1)).length := by simp; omega
        have l2 : S < (f.2.2 ++ List.replicate (S + 1 - f.2.2.length) []).length := by simp; omega
        have l3 : ((f.2.2 ++ List.replicate (S + 1 - f.2.2.length) []).getD S []).length ≤ 100000 := by
          refine getD_le (fun l hl => ?_) S
          rcases List.mem_append.1 hl with q | q
          · exact h4 l q
          · rw [List.mem_replicate] at q; rw [q.2]; simp
        have hg : (f.2.1 ++ List.replicate (S + 1 - f.2.1.length) (-1)).getD S 0 ≠ -1 → (f.2.1 ++ List.replicate (S + 1 - f.2.1.length) (-1)).getD S 0 = f.2.1.getD S 0 := fun z => by
          rw [e2] at z ⊢
          by_cases q : S < f.2.1.length
          · rw [if_pos q]
          · rw [if_neg q] at z; exact absurd rfl z
        rw [← e2] at e3
        simp only [len_eq, inb_nn, get_nat, ieq_eq]
        generalize hN : f.2.1 ++ List.replicate (S + 1 - f.2.1.length) (-1) = N at *
        generalize hO : f.2.2 ++ List.replicate (S + 1 - f.2.2.length) [] = O at *
        rw [decide_eq_true l1, cond_true, cond_true, cond_ndec]
        have d1 : P.set N (S : Int) n = N.set S n := rfl
        rw [d1, e1]
        by_cases q : N.getD S 0 = -1
        · rw [if_pos q, dall_map, bind_some]
          rw [if_neg (fun z => z q)] at e3
          rw [e3]
        · rw [if_neg q]
          rw [if_pos q] at e3
          have d2 : P.dent (O.map wr) (S : Int) = some (O.getD S []) := by
            unfold P.dent
            rw [Int.toNat_natCast, List.getElem?_map, List.getElem?_eq_getElem l2]
            show some O[S] = _
            rw [List.getD_eq_getElem?_getD, List.getElem?_eq_getElem l2]; rfl
          have d3 : P.dgive (P.dhole (O.map wr) (S : Int) PUnit.unit) (S : Int) PUnit.unit (P.app (O.getD S []) [N.getD S 0]) = (O.set S (O.getD S [] ++ [N.getD S 0])).map wr := by
            unfold P.dgive P.dhole
            rw [Int.toNat_natCast, List.set_set, List.map_set]
            rfl
          rw [d2, bind_some, d3, dall_map, bind_some, hg q, e3]
          have d4 : (P.dhole (O.map wr) (S : Int) PUnit.unit).length = O.length := by unfold P.dhole; simp
          rw [d4, decide_eq_true l2, cond_true, decide_eq_true (by simpa using l2), cond_true, cond_true]
          have := room_le (a := (O.getD S []).length) (b := ([f.2.1.getD S 0] : List Int).length) (n := 8) (by show _ + 1 ≤ _; omega) (by omega)
          rw [this, cond_true]
      · intro i hi
        try dsimp only
        have := room_le (a := ((f.2.2 ++ List.replicate i []).map wr).length) (b := 1) (n := 24) (by simp; omega) (by omega)
        have e : (f.2.2 ++ List.replicate (i + 1) []).map wr = (f.2.2 ++ List.replicate i []).map wr ++ [wr []] := by
          rw [List.replicate_succ', ← List.append_assoc, List.map_append]; rfl
        rw [len_eq, ile_nn, decide_eq_true (by simp; omega), cond_true, len_eq, List.length_singleton, this, cond_true, e]
        rfl
      · try dsimp only
        rw [len_eq, ile_nn, decide_eq_false (by simp; omega), cond_false]
    · intro i hi
      try dsimp only
      have := room_le (a := (f.2.1 ++ List.replicate i (-1)).length) (b := 1) (n := 8) (by simp; omega) (by omega)
      rw [len_eq, ile_nn, decide_eq_true (by simp; omega), cond_true, len_eq, List.length_singleton, this, cond_true, List.replicate_succ', ← List.append_assoc]
      rfl
    · try dsimp only
      rw [len_eq, ile_nn, decide_eq_false (by simp; omega), cond_false]
  · intro i hi
    try dsimp only
    have hg := h4 _ (getD_mem hi [])
    have := room_le (a := ((f.2.2.take i).map wr).length) (b := 1) (n := 24) (by simp; omega) (by omega)
    rw [ilt_len hi, cond_true, inb_len hi, cond_true, get_nat, cloneI K _ (by omega), bind_some, len_eq, len_eq, List.length_singleton, this, cond_true, wrap_succ (by omega), take_getD' hi [], List.map_append]
    rfl
  · try dsimp only
    rw [ilt_end]; rfl
end Go.PL.Cf
end
section
open Go Go.PG Go.PL
set_option linter.all false
namespace Go.PL.Cf
open Go.PL.Sto (Val Prp Ob dP dO Right withM ownM newM)
theorem nwL_get {f : Fr} {S : Nat} {n : Int} {i : Nat} (h : i < max f.2.1.length (S + 1)) : (nwL f S n).getD i 0 = nwE f S n i := by
  unfold nwL
  rw [List.getD_eq_getElem?_getD, List.getElem?_map, List.getElem?_range h]; rfl
theorem nwL_len (f : Fr) (S : Nat) (n : Int) : (nwL f S n).length = max f.2.1.length (S + 1) := by simp [nwL]
theorem odL_len (f : Fr) (S : Nat) : (odL f S).length = max f.2.2.length (S + 1) := by simp [odL]
theorem odL_get {f : Fr} {S : Nat} {i : Nat} (h : i < max f.2.2.length (S + 1)) : (odL f S).getD i [] = odE f S i := by
  unfold odL
  rw [List.getD_eq_getElem?_getD, List.getElem?_map, List.getElem?_range h]; rfl
def Ren (f f' : Fr) (i : Int) : Prop := ∀ u x, ofB f u x = true → ofB f' u (renA i x) = true
theorem ofB4 (f : Fr) (v : Val) (j : Int) : ofB f v (4, j) = true ↔ v.1 = 4 ∧ 0 ≤ j ∧ j < f.2.1.length ∧ 0 ≤ f.2.1.getD j.toNat 0 ∧ f.2.1.getD j.toNat 0 = v.2 := by
  unfold ofB
  rw [if_neg (by simp), if_neg (by simp), if_neg (by simp), if_neg (by simp), if_pos rfl, decide_eq_true_eq]
theorem ofB5 (f : Fr) (v : Val) (j : Int) : ofB f v (5, j) = true ↔ v.1 = 4 ∧ 0 ≤ j ∧ j < f.2.2.length ∧ v.2 ∈ f.2.2.getD j.toNat [] := by
  unfold ofB
  rw [if_neg (by simp), if_neg (by simp), if_neg (by simp), if_neg (by simp), if_neg (by simp), if_pos rfl, decide_eq_true_eq]
theorem ofB_same (f f' : Fr) (v : Val) {x : At} (h4 : x.1 ≠ 4) (h5 : x.1 ≠ 5) : ofB f v x = ofB f' v x := by
  unfold ofB
  rw [if_neg h4, if_neg h5, if_neg h4, if_neg h5]
theorem ren_fresh (f : Fr) (V : List Prp) (S : Nat) (n : Int) : Ren f (V, nwL f S n, odL f S) (S : Int) := by
  intro u x h
  obtain ⟨a, j⟩ := x
  by_cases h4 : a = 4
  · subst h4
    obtain ⟨c1, c2, c3, c4, c5⟩ := (ofB4 f u j).1 h
    obtain ⟨J, rfl⟩ := Int.eq_ofNat_of_zero_le c2
    rw [Int.toNat_natCast] at c4 c5
    by_cases q : J = S
    · subst q
      have e : renA (J : Int) (4, (J : Int)) = (5, (J : Int)) := by unfold renA; rw [if_pos rfl]
      rw [e, ofB5]
      refine ⟨c1, c2, ?_, ?_⟩
      · show (J : Int) < ((odL f J).length : Int)
        rw [odL_len]; omega
      · show u.2 ∈ (odL f J).getD (J : Int).toNat []
        rw [Int.toNat_natCast, odL_get (by omega)]
        unfold odE
        rw [if_pos ⟨rfl, by omega, by omega⟩, c5]
        simp
    · have e : renA (S : Int) (4, (J : Int)) = (4, (J : Int)) := by unfold renA; rw [if_neg (by simp; omega)]
      rw [e, ofB4]
      have g : (nwL f S n).getD J 0 = f.2.1.getD J 0 := by
        rw [nwL_get (by omega)]; unfold nwE; rw [if_neg q, if_pos (by omega)]
      refine ⟨c1, c2, ?_, ?_, ?_⟩
      · show (J : Int) < ((nwL f S n).length : Int)
        rw [nwL_len]; omega
      · show 0 ≤ (nwL f S n).getD (J : Int).toNat 0
        rw [Int.toNat_natCast, g]; exact c4
      · show (nwL f S n).getD (J : Int).toNat 0 = u.2
        rw [Int.toNat_natCast, g]; exact c5
  · have e : renA (S : Int) (a, j) = (a, j) := by unfold renA; rw [if_neg (by simp [h4])]
    rw [e]
    by_cases h5 : a = 5
    · subst h5
      obtain ⟨c1, c2, c3, c4⟩ := (ofB5 f u j).1 h
      obtain ⟨J, rfl⟩ := Int.eq_ofNat_of_zero_le c2
      rw [Int.toNat_natCast] at c4
      rw [ofB5]
      refine ⟨c1, c2, ?_, ?_⟩
      · show (J : Int) < ((odL f S).length : Int)
        rw [odL_len]; omega
      · show u.2 ∈ (odL f S).getD (J : Int).toNat []
        rw [Int.toNat_natCast, odL_get (by omega)]
        unfold odE
        exact List.mem_append_left _ c4
    · rw [← ofB_same f _ u (x := (a, j)) h4 h5]; exact h
theorem ren_val {f f' : Fr} {i : Int} (h : Ren f f' i) {u : Val} {l : List At} (hl : Canon l) (q : valB f u l = true) : valB f' u (norm (l.map (renA i))) = true := by
  unfold valB at *
  rw [List.any_eq_true] at q ⊢
  obtain ⟨x, hx, hq⟩ := q
  exact ⟨renA i x, (mem_ren hl).2 ⟨x, hx, rfl⟩, h u x hq⟩
def ObQ (f : Fr) (ob : Ob) (o : Sp) : Prop := valB f ob.2 o.2 = true ∧ (∀ p, p ∈ ob.1 → pr o.1 p.1 = true ∧ valB f p.2 (va o.1 p.1) = true) ∧ ∀ m, su o.1 m = true → hasP ob.1 m = true
theorem obq_ren {f f' : Fr} {i : Int} (h : Ren f f' i) {ob : Ob} {o : Sp} (mo : MayO o) (q : ObQ f ob o) : ObQ f' ob (rename o i) := by
  obtain ⟨q1, q2, q3⟩ := q
  rw [rename_eq mo]
  refine ⟨ren_val h (prot_canon mo) q1, fun p hp => ?_, fun m hm => ?_⟩
  · obtain ⟨v1, v2, v3⟩ := ren_view o.1 i p.1
    show pr (o.1.map (renF i)) p.1 = true ∧ valB f' p.2 (va (o.1.map (renF i)) p.1) = true
    rw [v1, v3]
    exact ⟨(q2 p hp).1, ren_val h (va_canon mo p.1) (q2 p hp).2⟩
  · obtain ⟨v1, v2, v3⟩ := ren_view o.1 i m
    replace hm : su (o.1.map (renF i)) m = true := hm
    rw [v2] at hm
    exact q3 m hm
theorem ob_of_q {f : Fr} {s : List Ob} {n : Int} {o : Sp} : ObP f s n o ↔ (0 ≤ n ∧ n < s.length) ∧ ObQ f (s.getD n.toNat dO) o :=
  ⟨fun h => ⟨⟨h.1, h.2.1⟩, h.2.2⟩, fun h => ⟨h.1.1, h.1.2, h.2⟩⟩
theorem var_find (f : Fr) (n : ByteArray) : varF f n = (ownM f.1 n).getD (0, 0) := by
  rw [Sto.own_find]
  have e := Go.PL.findSome_if (fun p : Prp => p.1 = n) (fun p => p.2) f.1
  unfold varF
  rw [e]
  cases f.1.find? fun p => decide (p.1 = n) <;> rfl
theorem st_grow {f : Fr} {s : List Ob} {a : Sta} {S : Nat} {nm : ByteArray} {ob : Ob} {o : Sp} (ma : MayS a) (mf : MayF f s) (mo : MayO o) (ho : ObQ f ob o) (st : StV f s a) :
    StV (withM f.1 nm (4, (s.length : Int)), nwL f S (s.length : Int), odL f S) (s ++ [ob]) (allocT a nm (S : Int) o) := by
  obtain ⟨h1, h2, h3, h4⟩ := st
  have hi : ¬ (S : Int) < 0 := by omega
  obtain ⟨e, _⟩ := alloc_ok (x := nm) hi ma mo (by rw [h1]; simp)
  have hR := ren_fresh f (withM f.1 nm (4, (s.length : Int))) S (s.length : Int)
  have hV := renV_ok (i := (S : Int)) ma.1.1
  have hA := ageL_up (i := (S : Int)) ma.2.1.1
  have hsrt := (Sto.props_iff.1 mf.2.2.1).2
  have glS : ∀ x, gl (insL (ageL (S : Int) a.2.2) ((4, (S : Int)), rename o (S : Int))) x = if x = (4, (S : Int)) then some (rename o (S : Int)) else gl (ageL (S : Int) a.2.2) x := fun x => gl_ins hA _ x
  have old : ∀ {n : Int} {x : At}, LcP f s a n x → ∀ o', gl a.2.2 x = some o' → MayO o' ∧ ObP (withM f.1 nm (4, (s.length : Int)), nwL f S (s.length : Int), odL f S) (s ++ [ob]) n (rename o' (S : Int)) := by
    rintro n x ⟨o1, g1, p1⟩ o' g
    rw [g1] at g
    injection g with g
    subst g
    have m1 := gl_ok ma.2.1.2 g1
    refine ⟨m1, ?_⟩
    obtain ⟨⟨k1, k2⟩, k3⟩ := ob_of_q.1 p1
    refine ob_of_q.2 ⟨⟨k1, by simp; omega⟩, ?_⟩
    rw [Sto.getD_app (by omega)]
    exact obq_ren hR m1 k3
  rw [e]
  refine ⟨rfl, fun n => ?_, fun i hi' hne => ?_, fun i hi' n hn => ?_⟩
  · unfold vB
    show valB _ _ (var (insB (a.2.1.map (renV (S : Int))) (nm, [(4, (S : Int))])) n) = true
    rw [var_find, var_gv, gv_ins hV.1]
    show valB _ ((ownM (withM f.1 nm (4, (s.length : Int))) n).getD (0, 0)) _ = true
    rw [Sto.own_with nm n _ hsrt]
    by_cases q : n = nm
    · rw [if_pos q, if_pos q]
      show valB _ (4, (s.length : Int)) [(4, (S : Int))] = true
      unfold valB
      rw [List.any_eq_true]
      refine ⟨(4, (S : Int)), by simp, ?_⟩
      rw [ofB4]
      have g : (nwL f S (s.length : Int)).getD S 0 = (s.length : Int) := by
        rw [nwL_get (by omega)]; unfold nwE; rw [if_pos rfl]
      refine ⟨rfl, by omega, ?_, ?_, ?_⟩
      · show (S : Int) < ((nwL f S (s.length : Int)).length : Int)
        rw [nwL_len]; omega
      · show 0 ≤ (nwL f S (s.length : Int)).getD (S : Int).toNat 0
        rw [Int.toNat_natCast, g]; omega
      · show (nwL f S (s.length : Int)).getD (S : Int).toNat 0 = _
        rw [Int.toNat_natCast, g]
    · rw [if_neg q, if_neg q, ← var_gv, var_ren ma.1.1, ← var_find]
      exact ren_val hR (var_canon ma.1.2 n) (h2 n)
  · show LcP _ _ (false, insB (a.2.1.map (renV (S : Int))) (nm, [(4, (S : Int))]), insL (ageL (S : Int) a.2.2) ((4, (S : Int)), rename o (S : Int))) ((nwL f S (s.length : Int)).getD i 0) (4, (i : Int))
    replace hi' : i < (nwL f S (s.length : Int)).length := hi'
    replace hne : (nwL f S (s.length : Int)).getD i 0 ≠ -1 := hne
    rw [nwL_len] at hi'
    rw [nwL_get hi'] at hne ⊢
    unfold nwE at hne ⊢
    unfold LcP
    show ∃ o', gl (insL (ageL (S : Int) a.2.2) ((4, (S : Int)), rename o (S : Int))) (4, (i : Int)) = some o' ∧ _
    rw [glS]
    by_cases q : i = S
    · rw [if_pos q] at hne ⊢
      rw [if_pos (by rw [q])]
      refine ⟨_, rfl, ob_of_q.2 ⟨⟨by omega, by simp; omega⟩, ?_⟩⟩
      have g : (s ++ [ob]).getD (s.length : Int).toNat dO = ob := by
        rw [Int.toNat_natCast, List.getD_eq_getElem?_getD, List.getElem?_append_right (by omega)]; simp
      rw [g]
      exact obq_ren hR mo ho
    · rw [if_neg q] at hne ⊢
      by_cases q2 : i < f.2.1.length
      · rw [if_pos q2] at hne ⊢
        rw [if_neg (by simp; omega), gl_age ma.2.1.1, if_neg (by simp; omega), if_neg (by simp)]
        have hl := h3 i q2 hne
        obtain ⟨o1, g1, p1⟩ := hl
        rw [g1]
        exact ⟨_, rfl, (old (h3 i q2 hne) o1 g1).2⟩
      · rw [if_neg q2] at hne; exact absurd rfl hne
  · show LcP _ _ (false, insB (a.2.1.map (renV (S : Int))) (nm, [(4, (S : Int))]), insL (ageL (S : Int) a.2.2) ((4, (S : Int)), rename o (S : Int))) n (5, (i : Int))
    replace hi' : i < (odL f S).length := hi'
    replace hn : n ∈ (odL f S).getD i [] := hn
    rw [odL_len] at hi'
    rw [odL_get hi'] at hn
    unfold odE at hn
    unfold LcP
    show ∃ o', gl (insL (ageL (S : Int) a.2.2) ((4, (S : Int)), rename o (S : Int))) (5, (i : Int)) = some o' ∧ _
    rw [glS, if_neg (by simp), gl_age ma.2.1.1, if_neg (by simp)]
    rcases List.mem_append.1 hn with q | q
    · have q2 : i < f.2.2.length := by
        apply Classical.byContradiction
        intro z
        rw [List.getD_eq_getElem?_getD, List.getElem?_eq_none (by omega)] at q
        simp at q
      have hl := h4 i q2 n q
      obtain ⟨o1, g1, p1⟩ := hl
      obtain ⟨m1, k1⟩ := old (h4 i q2 n q) o1 g1
      by_cases z : i = S
      · rw [if_pos (by rw [z])]
        subst z
        rw [g1]
        cases g4 : gl a.2.2 (4, (i : Int)) with
        | none => exact ⟨_, rfl, k1⟩
        | some o4 =>
          have m4 := gl_ok ma.2.1.2 g4
          exact ⟨_, rfl, ob_mono (within_join_right (rename_may m4 _) (rename_may m1 _)) k1⟩
      · rw [if_neg (by simp; omega), g1]
        exact ⟨_, rfl, k1⟩
    · split at q
      · rename_i z
        obtain ⟨z1, z2, z3⟩ := z
        subst z1
        rw [if_pos rfl]
        simp only [List.mem_singleton] at q
        subst q
        have hl := h3 i z2 z3
        obtain ⟨o1, g1, p1⟩ := hl
        obtain ⟨m1, k1⟩ := old (h3 i z2 z3) o1 g1
        rw [g1]
        cases g5 : gl a.2.2 (5, (i : Int)) with
        | none => exact ⟨_, rfl, k1⟩
        | some o5 =>
          have m5 := gl_ok ma.2.1.2 g5
          exact ⟨_, rfl, ob_mono (within_join_left (rename_may m1 _) (rename_may m5 _)) k1⟩
      · simp at q
theorem flat_set (e : Int) : ∀ (O : List (List Int)) (S : Nat), S < O.length → ((O.set S (O.getD S [] ++ [e])).flatten).Perm (e :: O.flatten) := by
  intro O
  induction O with
  | nil => intro S h; simp at h
  | cons l O ih =>
    intro S h
    cases S with
    | zero =>
      show (List.flatten ((l ++ [e]) :: O)).Perm _
      rw [List.flatten_cons, List.flatten_cons, List.append_assoc]
      exact List.perm_middle
    | succ S =>
      show (List.flatten (l :: O.set S (O.getD S [] ++ [e]))).Perm _
      rw [List.flatten_cons, List.flatten_cons]
      exact (List.Perm.append_left l (ih S (by simpa using h))).trans List.perm_middle
theorem filt_set (n : Int) (hn : n ≠ -1) : ∀ (N : List Int) (S : Nat), S < N.length → ((if N.getD S 0 = -1 then [] else [N.getD S 0]) ++ (N.set S n).filter nz).Perm (n :: N.filter nz) := by
  intro N
  induction N with
  | nil => intro S h; simp at h
  | cons x N ih =>
    intro S h
    cases S with
    | zero =>
      show ((if x = -1 then [] else [x]) ++ (n :: N).filter nz).Perm (n :: (x :: N).filter nz)
      have e : (n :: N).filter nz = n :: N.filter nz := List.filter_cons_of_pos (by simp [nz, hn])
      rw [e]
      by_cases q : x = -1
      · rw [if_pos q, List.filter_cons_of_neg (by simp [nz, q])]
        exact List.Perm.refl _
      · rw [if_neg q, List.filter_cons_of_pos (by simp [nz, q])]
        exact List.Perm.swap _ _ _
    | succ S =>
      have := ih S (by simpa using h)
      show ((if N.getD S 0 = -1 then [] else [N.getD S 0]) ++ (x :: N.set S n).filter nz).Perm (n :: (x :: N).filter nz)
      by_cases q : x = -1
      · rw [List.filter_cons_of_neg (by simp [nz, q]), List.filter_cons_of_neg (by simp [nz, q])]
        exact this
      · rw [List.filter_cons_of_pos (by simp [nz, q]), List.filter_cons_of_pos (by simp [nz, q])]
        exact List.perm_middle.trans ((List.Perm.cons x this).trans (List.Perm.swap _ _ _))
theorem filt_rep (m : Nat) : (List.replicate m (-1 : Int)).filter nz = [] := by
  rw [List.filter_eq_nil_iff]
  intro x hx
  rw [List.mem_replicate] at hx
  simp [nz, hx.2]
theorem flat_rep (m : Nat) : (List.replicate m ([] : List Int)).flatten = [] := by
  induction m with
  | zero => rfl
  | succ m ih => rw [List.replicate_succ, List.flatten_cons, ih]; rfl
theorem all_fresh (f : Fr) (V : List Prp) (S : Nat) {n : Int} (hn : n ≠ -1) : (allF (V, nwL f S n, odL f S)).Perm (n :: allF f) := by
  have hN := filt_set n hn (f.2.1 ++ List.replicate (S + 1 - f.2.1.length) (-1)) S (by simp; omega)
  rw [pad_nw, pad_get, List.filter_append, filt_rep, List.append_nil] at hN
  have hO := od_set f S (S < f.2.1.length ∧ f.2.1.getD S 0 ≠ -1) Iff.rfl
  have hF := flat_set (f.2.1.getD S 0) (f.2.2 ++ List.replicate (S + 1 - f.2.2.length) []) S (by simp; omega)
  have e0 : (f.2.2 ++ List.replicate (S + 1 - f.2.2.length) []).flatten = f.2.2.flatten := by rw [List.flatten_append, flat_rep, List.append_nil]
  rw [e0] at hF
  show ((odL f S).flatten ++ (nwL f S n).filter nz).Perm (n :: (f.2.2.flatten ++ f.2.1.filter nz))
  have fin : (f.2.2.flatten ++ (n :: f.2.1.filter nz)).Perm (n :: (f.2.2.flatten ++ f.2.1.filter nz)) := List.perm_middle
  refine List.Perm.trans ?_ fin
  rw [← hO]
  by_cases c : S < f.2.1.length ∧ f.2.1.getD S 0 ≠ -1
  · rw [if_pos c]
    rw [if_pos c.1, if_neg c.2] at hN
    refine (List.Perm.append_right _ hF).trans ?_
    have m : (f.2.1.getD S 0 :: f.2.2.flatten ++ (nwL f S n).filter nz).Perm (f.2.2.flatten ++ (f.2.1.getD S 0 :: (nwL f S n).filter nz)) := (List.perm_middle).symm
    exact m.trans (List.Perm.append_left _ hN)
  · rw [if_neg c, e0]
    have z : (if S < f.2.1.length then f.2.1.getD S 0 else -1) = -1 := by
      by_cases q : S < f.2.1.length
      · rw [if_pos q]
        exact Classical.byContradiction fun y => c ⟨q, y⟩
      · rw [if_neg q]
    rw [z, if_pos rfl, List.nil_append] at hN
    exact List.Perm.append_left _ hN
theorem apart_more {f : Fr} {N : Nat} (V : List Prp) (S : Nat) (h : Apart (allF f) N) : Apart (allF (V, nwL f S (N : Int), odL f S)) (N + 1) := by
  have p := all_fresh f V S (n := (N : Int)) (by omega)
  refine ⟨fun x hx => ?_, ?_⟩
  · rcases List.mem_cons.1 (p.mem_iff.1 hx) with q | q
    · omega
    · have := h.1 x q; omega
  · rw [p.nodup_iff, List.nodup_cons]
    exact ⟨fun q => by have := h.1 _ q; omega, h.2⟩
theorem may_grow {f : Fr} {s : List Ob} {ob : Ob} {S : Nat} (nm : ByteArray) (h : MayF f s) (hs : Sto.MayS (s ++ [ob])) : MayF (withM f.1 nm (4, (s.length : Int)), nwL f S (s.length : Int), odL f S) (s ++ [ob]) := by
  obtain ⟨h1, h2, h3, h4⟩ := h
  have e : (s ++ [ob]).length = s.length + 1 := by simp
  refine ⟨hs, ?_, ?_, ?_⟩
  · show (nwL f S (s.length : Int)).length = (odL f S).length
    rw [nwL_len, odL_len, h2]
  · obtain ⟨k1, k2⟩ := Sto.props_iff.1 h3
    refine Sto.props_iff.2 ⟨fun p hp => ?_, Sto.with_srt nm _ k2⟩
    rw [e]
    rcases Sto.with_mem hp with rfl | q
    · unfold Sto.Right; right; right; right; right; exact ⟨rfl, by show (0 : Int) ≤ (s.length : Int); omega, by show (s.length : Int) < _; omega⟩
    · exact Sto.right_mono (k1 p q) (by omega)
  · rw [e]; exact apart_more _ S h4
theorem few_grow {f : Fr} (h : SmallF f) (V : List Prp) (hV : V.length ≤ 1000) {S : Nat} (hS : S ≤ 20) (n : Int) : FewF (V, nwL f S n, odL f S) ∧ (odL f S).flatten.length + (nwL f S n).length ≤ 1000000 := by
  obtain ⟨h1, h2, h3, h4⟩ := h
  have a1 := nwL_len f S n
  have a2 := odL_len f S
  have a3 : ∀ l, l ∈ odL f S → l.length ≤ 31 := by
    intro l hl
    unfold odL at hl
    rw [List.mem_map] at hl
    obtain ⟨i, _, rfl⟩ := hl
    unfold odE
    have := getD_le (m := 30) (fun l hl => by simpa using List.all_eq_true.1 h1 l hl) i
    rw [List.length_append]
    split
    · simp only [List.length_singleton]; omega
    · simp only [List.length_nil]; omega
  refine ⟨⟨by show V.length ≤ _; omega, by show (nwL f S n).length ≤ _; omega, by show (odL f S).length ≤ _; omega, fun l hl => by have := a3 l hl; omega⟩, ?_⟩
  have := flat_le (odL f S) a3
  omega
theorem gsite {n : Int} {X : Option Bool} (h : 0 ≤ n → n ≤ 20 → X = some true) : P.cond (P.ilt n 0) (P.bind (law21_fixed K ()) fun r => some r) (P.cond (P.ilt 20 n) (P.bind (law21_fixed K ()) fun r => some r) X) = some true := by
  rw [ilt_dec, cond_dec, ilt_dec, cond_dec, fixed21, bind_some]
  by_cases q : n < 0
  · rw [if_pos q]
  · rw [if_neg q]
    by_cases q2 : 20 < n
    · rw [if_pos q2]
    · rw [if_neg q2]; exact h (by omega) (by omega)
theorem grows21 (x : Al × (ByteArray × ByteArray × Val × List At) × Int) (h1 : x.1.1.2.2.length ≤ 9223372036854775807) (h2 : x.1.2.1.length ≤ 9223372036854775807) (h3 : x.2.1.2.2.2.length ≤ 8796093022000) : law21_ConformGrows K x = some true := by
  obtain ⟨⟨f, s, a⟩, ⟨yX, yN, yW, yV⟩, site⟩ := x
  unfold law21_ConformGrows
  try dsimp only at h1 h2 h3 ⊢
  apply g0
  rw [law_small (f, s, a) h1 h2, bind_some]
  refine g21 fun sm => ?_
  obtain ⟨sf, so, sa⟩ := sm
  have ff := smallF_few sf
  have fo := smallO_few so
  have fa := small_fewT sa
  rw [ref_may8 a fa, bind_some]
  refine g21 fun ma => ?_
  rw [ref_may yV h3, bind_some]
  refine g21 fun mv => ?_
  rw [len_eq]
  refine glen fun lv => ?_
  refine gsite fun g1 g2 => ?_
  obtain ⟨S, rfl⟩ := Int.eq_ofNat_of_zero_le g1
  rw [at_may f s ff fo (flat_small sf), bind_some]
  refine g21 fun mf => ?_
  rw [at_state f s a ff fo fa, bind_some]
  refine g21 fun st => ?_
  have st := (st_iff ma).1 st
  rw [at_value f yW yV ff (by omega), bind_some]
  have vd : valB f yW yV = decide (valB f yW yV = true) := by cases valB f yW yV <;> rfl
  rw [vd]
  refine g21 fun hwv => ?_
  have fs := fits_few fo
  have ls : s.length ≤ 100 := so.2
  rw [ref_varF f yX ff, bind_some, Sto.ref_new s ([(yN, yW)], varF f yX) fs (by omega) (by simp), bind_some]
  unfold newM
  split
  · rename_i q
    try dsimp only
    rw [not_true, cond_false]
    have hS : S ≤ 20 := by omega
    have eF : freshF f (S : Int) (s.length : Int) = (f.1, nwL f S (s.length : Int), odL f S) := by
      unfold freshF
      rw [if_neg (by omega), Int.toNat_natCast]
    rw [at_fresh f (S : Int) _ ff, bind_some, eF]
    have hsrt := (Sto.props_iff.1 mf.2.2.1).2
    have l1 : f.1.length ≤ 40 := sf.2.1
    have eS : ref21_Set K ((f.1, nwL f S (s.length : Int), odL f S), { data := #[110, 101, 119] }, (4, (s.length : Int))) = some (withM f.1 { data := #[110, 101, 119] } (4, (s.length : Int)), nwL f S (s.length : Int), odL f S) := by
      unfold ref21_Set
      try dsimp only
      rw [Sto.ref_with f.1 _ _ hsrt (by omega), bind_some]
    rw [eS, bind_some]
    have l2 : a.2.1.length ≤ 100000 := fa.1
    have bd := small_bdT sa
    have lvar : (var a.2.1 yX).length ≤ 40 := by
      have : ∀ b, b ∈ a.2.1 → b.2.length ≤ 40 := sa.2.2.1
      unfold var getV
      cases g : a.2.1.find? fun b => decide (b.1 = yX) with
      | none => simp
      | some b => exact this b (List.mem_of_find?_eq_some g)
    have mo0 : MayO (([], var a.2.1 yX) : Sp) := ⟨List.Pairwise.nil, by simp, var_norm ma yX⟩
    have bo0 : Bd 40 (([], var a.2.1 yX) : Sp) := ⟨by simp, by simp, lvar⟩
    have mo := strong_may mo0 yN yV
    have bo := strong_bd bo0 yN (v := yV) (j := 30) lv
    have bd' : BdT 71 a := ⟨Nat.le_trans bd.1 (by omega), fun b hb => Nat.le_trans (bd.2.1 b hb) (by omega), Nat.le_trans bd.2.2.1 (by omega), fun l hl => by
      obtain ⟨z1, z2, z3⟩ := bd.2.2.2 l hl
      exact ⟨by omega, fun g hg => by have := z2 g hg; omega, by omega⟩⟩
    rw [ref_var a yX (by show a.2.1.length ≤ 1000000; omega), bind_some, ref_strong _ yN yV (bd_few bo0 (by omega)) (by omega), bind_some, ref_alloc a _ (S : Int) _ bd' bo (by omega), bind_some]
    obtain ⟨f1, f2⟩ := few_grow sf (withM f.1 { data := #[110, 101, 119] } (4, (s.length : Int))) (by have := Sto.with_len f.1 { data := #[110, 101, 119] } (4, (s.length : Int)); omega) hS (s.length : Int)
    have fo2 : FewO (s ++ [([(yN, yW)], varF f yX)]) := ⟨by simp; omega, fun o ho => by
      rcases List.mem_append.1 ho with z | z
      · exact fo.2 o z
      · simp only [List.mem_singleton] at z; subst z; simp⟩
    have hob : ObQ f ([(yN, yW)], varF f yX) (strong ([], var a.2.1 yX) yN yV) := by
      rw [strong_eq mo0]
      refine ⟨st.2.1 yX, fun p hp => ?_, fun m hm => ?_⟩
      · simp only [List.mem_singleton] at hp
        subst hp
        obtain ⟨v1, v2, v3⟩ := put_view (l := ([] : List Fd)) List.Pairwise.nil (yN, true, norm yV) yN
        show pr (put [] (yN, true, norm yV)) yN = true ∧ valB f yW (va (put [] (yN, true, norm yV)) yN) = true
        rw [v1, v3, if_pos rfl, if_pos rfl]
        refine ⟨rfl, ?_⟩
        show valB f yW (norm yV) = true
        rw [← mv]
        exact hwv
      · obtain ⟨v1, v2, v3⟩ := put_view (l := ([] : List Fd)) List.Pairwise.nil (yN, true, norm yV) m
        replace hm : su (put [] (yN, true, norm yV)) m = true := hm
        rw [v2] at hm
        by_cases z : yN = m
        · subst z
          simp [hasP]
        · rw [if_neg z] at hm
          simp [su, getR, get] at hm
    have hst := st_grow (S := S) (nm := { data := #[110, 101, 119] }) ma mf mo hob st
    have ma2 := (alloc_ok (x := { data := #[110, 101, 119] }) (i := (S : Int)) (by omega) ma mo (by rw [st.1]; simp)).2
    have fa2 : FewT (allocT a { data := #[110, 101, 119] } (S : Int) (strong ([], var a.2.1 yX) yN yV)) := by
      rw [(alloc_ok (x := { data := #[110, 101, 119] }) (i := (S : Int)) (by omega) ma mo (by rw [st.1]; simp)).1]
      have z := alloc_few (i := (S : Int)) bd' bo (by omega)
      obtain ⟨z1, z2, z3, z4⟩ := z
      have hle : (insB (a.2.1.map (renV (S : Int))) ({ data := #[110, 101, 119] }, [(4, (S : Int))])).length ≤ _ := insK_length (lt := ltS) (key := fun b : Bv => b.1) (a.2.1.map (renV (S : Int))) ({ data := #[110, 101, 119] }, [(4, (S : Int))])
      rw [List.length_map] at hle
      have l3 : a.2.1.length ≤ 40 := sa.1
      refine ⟨by show (insB _ _).length ≤ _; omega, fun b hb => ?_, z3, z4⟩
      rcases (insK_mem ordS).1 hb with rfl | ⟨g, _⟩
      · simp
      · exact z2 b g
    rw [at_state _ _ _ f1 fo2 fa2, bind_some, decide_eq_true ((st_iff ma2).2 hst), cond_true, at_may _ _ f1 fo2 f2, bind_some, decide_eq_true (may_grow _ mf q)]
  · rfl
end Go.PL.Cf
end

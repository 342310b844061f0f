/- Lemmas for the claim. -/
import Derived.Test.YtoicfdfjjnfgaaaG4
import Derived.KernelRfl
set_option linter.all false
section
open Go Go.PG Go.PL
set_option linter.all false
namespace Go.PL.Ty
def K : Nat := 18446744073709551616
theorem getD_mem {α : Type} {l : List α} {i : Nat} (h : i < l.length) (d : α) : l.getD i d ∈ l := by
  simp [List.getD_eq_getElem?_getD, h]
theorem forall_getD {α : Type} {l : List α} (d : α) {p : α → Prop} : (∀ i, i < l.length → p (l.getD i d)) ↔ ∀ f, f ∈ l → p f := by
  constructor
  · intro h f hf
    obtain ⟨i, hi, rfl⟩ := List.getElem_of_mem hf
    have := h i hi
    simpa [List.getD_eq_getElem?_getD, hi] using this
  · intro h i hi; exact h _ (getD_mem hi d)
theorem pair_steps {α : Type} {R : α → α → Prop} (tr : ∀ {a b c}, R a b → R b c → R a c) (l : List α) (d : α) : (∀ i, i < l.length → 0 < i → R (l.getD (i - 1) d) (l.getD i d)) ↔ l.Pairwise R := by
  constructor
  · intro h
    have key : ∀ k i, i + k + 1 < l.length → R (l.getD i d) (l.getD (i + k + 1) d) := by
      intro k
      induction k with
      | zero => intro i hi; have := h (i + 1) hi (by omega); simpa using this
      | succ k ih =>
        intro i hi
        have h1 := ih i (by omega)
        have h2 := h (i + (k + 1) + 1) hi (by omega)
        rw [show i + (k + 1) + 1 - 1 = i + k + 1 by omega] at h2
        exact tr h1 h2
    refine List.pairwise_iff_getElem.2 fun i j hi hj hij => ?_
    have := key (j - i - 1) i (by omega)
    rw [show i + (j - i - 1) + 1 = j by omega] at this
    simpa [List.getD_eq_getElem?_getD, hi, hj] using this
  · intro h i hi h0
    have := List.pairwise_iff_getElem.1 h (i - 1) i (by omega) hi (by omega)
    simpa [List.getD_eq_getElem?_getD, hi, show i - 1 < l.length by omega] using this
theorem ilt_len {α : Type} {l : List α} {i : Nat} (h : i < l.length) : P.ilt (i : Int) (P.len l) = true := ilt_iff.2 (by rw [len_eq]; omega)
theorem ilt_end {α : Type} (l : List α) : P.ilt (l.length : Int) (P.len l) = false := by rw [Bool.eq_false_iff, Ne, ilt_iff, len_eq]; omega
theorem inb_len {α : Type} {l : List α} {i : Nat} (h : i < l.length) : P.inb (i : Int) (P.len l) = true := inb_iff.2 (by rw [len_eq]; omega)
theorem not_true : P.not true = false := rfl
theorem not_false' : P.not false = true := rfl
theorem cond_dec {α : Type} (p : Prop) [Decidable p] (x y : α) : P.cond (decide p) x y = if p then x else y := by
  by_cases h : p
  · rw [decide_eq_true h, if_pos h]; rfl
  · rw [decide_eq_false h, if_neg h]; rfl
theorem cond_ndec {α : Type} (p : Prop) [Decidable p] (x y : α) : P.cond (P.not (decide p)) x y = if p then y else x := by
  by_cases h : p
  · rw [decide_eq_true h, if_pos h]; rfl
  · rw [decide_eq_false h, if_neg h]; rfl
theorem slt_dec (a b : ByteArray) : P.slt a b = decide (ltS a b) := by rw [Bool.eq_iff_iff, slt_iff, decide_eq_true_eq]
theorem seq_dec (a b : ByteArray) : P.seq a b = decide (a = b) := by rw [Bool.eq_iff_iff, seq_iff, decide_eq_true_eq]
theorem ilt_dec (a b : Int) : P.ilt a b = decide (a < b) := rfl
theorem ile_dec (a b : Int) : P.ile a b = decide (a ≤ b) := rfl
theorem loop_all {ρ σ : Type} (n : Nat) (p : Nat → Prop) [DecidablePred p] {f : Int → Option (Int ⊕ (Unit ⊕ ρ))} {A : Option σ} {B : ρ → Option σ} {r : ρ} (hn : n ≤ 9223372036854775807)
    (hs : ∀ i : Nat, i < n → f (i : Int) = some (if p i then .inl ((i + 1 : Nat) : Int) else .inr (.inr r))) (he : f (n : Int) = some (.inr (.inl ()))) :
    P.bind (P.iter K f 0) (P.either (fun (_ : Unit) => A) B) = if ∀ i, i < n → p i then A else B r := by
  rw [iter_all (n := n) (e := .inl ()) (r := .inr r) p K hs he (by unfold K; omega), bind_some]
  by_cases q : ∀ i, i < n → p i
  · rw [if_pos q, if_pos q]; rfl
  · rw [if_neg q, if_neg q]; rfl
theorem range_map {α : Type} (l : List α) (d : α) : (List.range l.length).map (fun i => l.getD i d) = l := by
  apply List.ext_getElem
  · simp
  · intro i h1 h2
    simp at h1
    simp [List.getD_eq_getElem?_getD, h1]
theorem range_findSome {α ρ : Type} (l : List α) (d : α) (h : α → Option ρ) : (List.range l.length).findSome? (fun i => h (l.getD i d)) = l.findSome? h := by
  conv => rhs; rw [← range_map l d]
  rw [List.findSome?_map]; rfl
theorem findSome_if {α ρ : Type} (q : α → Prop) [DecidablePred q] (g : α → ρ) : ∀ l : List α, l.findSome? (fun x => if q x then some (g x) else none) = (l.find? fun x => decide (q x)).map g := by
  intro l
  induction l with
  | nil => rfl
  | cons a l ih =>
    rw [List.findSome?_cons, List.find?_cons]
    by_cases h : q a
    · rw [if_pos h, decide_eq_true h]; rfl
    · rw [if_neg h, decide_eq_false h]; exact ih
theorem loop_find {α ρ σ : Type} (l : List α) (d : α) (q : α → Prop) [DecidablePred q] (g : α → ρ) {f : Int → Option (Int ⊕ (Unit ⊕ ρ))} {A : Option σ} {B : ρ → Option σ} (hn : l.length ≤ 1000000000)
    (hs : ∀ i : Nat, i < l.length → f (i : Int) = some (if q (l.getD i d) then .inr (.inr (g (l.getD i d))) else .inl ((i + 1 : Nat) : Int))) (he : f (l.length : Int) = some (.inr (.inl ()))) :
    P.bind (P.iter K f 0) (P.either (fun (_ : Unit) => A) B) = match l.find? fun x => decide (q x) with
      | some x => B (g x)
      | none => A := by
  rw [iter_find0 (n := l.length) (e := .inl ()) (fun i => if q (l.getD i d) then some (.inr (g (l.getD i d))) else none) K (fun i hi => by
    rw [hs i hi]
    by_cases h : q (l.getD i d)
    · rw [if_pos h, if_pos h]
    · rw [if_neg h, if_neg h]) he (by unfold K; omega)]
  rw [range_findSome l d (fun x => if q x then some (Sum.inr (g x) : Unit ⊕ ρ) else none), findSome_if q (fun x => (Sum.inr (g x) : Unit ⊕ ρ)) l, bind_some]
  cases l.find? fun x => decide (q x) with
  | none => rfl
  | some x => rfl
theorem half {i j : Nat} (h : i + j < 9223372036854775808) : P.wrap IntKind.i64 (P.shrk IntKind.u64 (P.wrap IntKind.u64 (P.wrap IntKind.i64 (P.add (i : Int) (j : Int)))) (1 : Int)) = (((i + j) / 2 : Nat) : Int) := by
  rw [show P.add (i : Int) (j : Int) = ((i + j : Nat) : Int) from by simp [P.add], wrap_nat h, wrap_u64 (by omega) (by omega)]
  have : P.shrk IntKind.u64 ((i + j : Nat) : Int) (1 : Int) = (((i + j) / 2 : Nat) : Int) := by
    simp only [P.shrk]
    rw [show (2 : Int) ^ min (1 : Int).toNat IntKind.u64.bits = 2 from by decide, Int.fdiv_eq_ediv_of_nonneg _ (by decide)]
    omega
  rw [this, wrap_nat (by omega)]
theorem bsearch {α ρ : Type} (key : α → ByteArray) (d : α) (l : List α) (n : ByteArray) (h : l.Pairwise fun a b => ltS (key a) (key b)) (hl : l.length ≤ 1000000) {f : Int × Int → Option ((Int × Int) ⊕ (Int ⊕ ρ))}
    (hs : ∀ i j : Nat, i < j → j ≤ l.length → f ((i : Int), (j : Int)) = some (.inl (if ltS (key (l.getD ((i + j) / 2) d)) n then ((((i + j) / 2 + 1 : Nat) : Int), (j : Int)) else ((i : Int), (((i + j) / 2 : Nat) : Int)))))
    (he : ∀ i : Nat, f ((i : Int), (i : Int)) = some (.inr (.inl (i : Int)))) :
    ∃ p : Nat, p ≤ l.length ∧ P.iter K f (0, (l.length : Int)) = some (.inl (p : Int)) ∧ (∀ i, i < p → ltS (key (l.getD i d)) n) ∧ ∀ i, p ≤ i → i < l.length → ¬ ltS (key (l.getD i d)) n := by
  have up : ∀ i j, i < j → j < l.length → ltS (key (l.getD i d)) (key (l.getD j d)) := fun i j hij hj => by
    have := List.pairwise_iff_getElem.1 h i j (by omega) hj hij
    simpa [List.getD_eq_getElem?_getD, hj, show i < l.length by omega] using this
  have key1 : ∀ (m i j k : Nat), j - i ≤ m → m < k → i ≤ j → j ≤ l.length → (∀ x, x < i → ltS (key (l.getD x d)) n) → (∀ x, j ≤ x → x < l.length → ¬ ltS (key (l.getD x d)) n) →
      ∃ p : Nat, p ≤ l.length ∧ P.iter k f ((i : Int), (j : Int)) = some (.inl (p : Int)) ∧ (∀ i, i < p → ltS (key (l.getD i d)) n) ∧ ∀ i, p ≤ i → i < l.length → ¬ ltS (key (l.getD i d)) n := by
    intro m
    induction m with
    | zero =>
      intro i j k hd hk hij hj lo hi
      have : j = i := by omega
      subst this
      exact ⟨j, hj, iter_done (by omega) (he j), lo, hi⟩
    | succ m ih =>
      intro i j k hd hk hij hj lo hi
      by_cases e : i = j
      · subst e
        exact ⟨i, hj, iter_done (by omega) (he i), lo, hi⟩
      · have hstep := hs i j (by omega) hj
        by_cases q : ltS (key (l.getD ((i + j) / 2) d)) n
        · rw [if_pos q] at hstep
          rw [iter_step (by omega) hstep]
          refine ih _ _ (k - 1) (by omega) (by omega) (by omega) hj (fun x hx => ?_) hi
          rcases Nat.lt_or_ge x ((i + j) / 2) with z | z
          · exact ltS_trans (up x _ z (by omega)) q
          · rw [show x = (i + j) / 2 by omega]; exact q
        · rw [if_neg q] at hstep
          rw [iter_step (by omega) hstep]
          refine ih _ _ (k - 1) (by omega) (by omega) (by omega) (by omega) lo fun x hx hx2 z => ?_
          rcases Nat.lt_or_ge ((i + j) / 2) x with y | y
          · exact q (ltS_trans (up _ x y hx2) z)
          · rw [show x = (i + j) / 2 by omega] at z; exact q z
  have := key1 l.length 0 l.length K (by omega) (by unfold K; omega) (by omega) (Nat.le_refl _) (fun x hx => absurd hx (by omega)) (fun x h1 h2 => absurd h1 (by omega))
  simpa using this
theorem bs_goalQ {α ρ σ : Type} (key : α → ByteArray) (d : α) (l : List α) (n : ByteArray) (h : l.Pairwise fun a b => ltS (key a) (key b)) (hl : l.length ≤ 1000000) {f : Int × Int → Option ((Int × Int) ⊕ (Int ⊕ ρ))} {A : Int ⊕ ρ → Option σ} (Q : Option σ → Prop)
    (hs : ∀ i j : Nat, i < j → j ≤ l.length → f ((i : Int), (j : Int)) = some (.inl (if ltS (key (l.getD ((i + j) / 2) d)) n then ((((i + j) / 2 + 1 : Nat) : Int), (j : Int)) else ((i : Int), (((i + j) / 2 : Nat) : Int)))))
    (he : ∀ i : Nat, f ((i : Int), (i : Int)) = some (.inr (.inl (i : Int))))
    (fin : ∀ p : Nat, p ≤ l.length → (∀ i, i < p → ltS (key (l.getD i d)) n) → (∀ i, p ≤ i → i < l.length → ¬ ltS (key (l.getD i d)) n) → Q (A (.inl (p : Int)))) : Q (P.bind (P.iter K f (0, (l.length : Int))) A) := by
  obtain ⟨p, hp, hrun, lo, hi⟩ := bsearch key d l n h hl hs he
  rw [hrun]
  exact fin p hp lo hi
theorem bs_goal {α ρ σ : Type} (key : α → ByteArray) (d : α) (l : List α) (n : ByteArray) (h : l.Pairwise fun a b => ltS (key a) (key b)) (hl : l.length ≤ 1000000) {f : Int × Int → Option ((Int × Int) ⊕ (Int ⊕ ρ))} {A : Int ⊕ ρ → Option σ} {r : Option σ}
    (hs : ∀ i j : Nat, i < j → j ≤ l.length → f ((i : Int), (j : Int)) = some (.inl (if ltS (key (l.getD ((i + j) / 2) d)) n then ((((i + j) / 2 + 1 : Nat) : Int), (j : Int)) else ((i : Int), (((i + j) / 2 : Nat) : Int)))))
    (he : ∀ i : Nat, f ((i : Int), (i : Int)) = some (.inr (.inl (i : Int))))
    (fin : ∀ p : Nat, p ≤ l.length → (∀ i, i < p → ltS (key (l.getD i d)) n) → (∀ i, p ≤ i → i < l.length → ¬ ltS (key (l.getD i d)) n) → A (.inl (p : Int)) = r) : P.bind (P.iter K f (0, (l.length : Int))) A = r := by
  obtain ⟨p, hp, hrun, lo, hi⟩ := bsearch key d l n h hl hs he
  rw [hrun]
  exact fin p hp lo hi
theorem bs_found {α : Type} (key : α → ByteArray) (d : α) (l : List α) (n : ByteArray) (h : l.Pairwise fun a b => ltS (key a) (key b)) {p : Nat} (hp : p ≤ l.length) (lo : ∀ i, i < p → ltS (key (l.getD i d)) n) (hi : ∀ i, p ≤ i → i < l.length → ¬ ltS (key (l.getD i d)) n) :
    l.find? (fun a => decide (key a = n)) = if p < l.length ∧ key (l.getD p d) = n then some (l.getD p d) else none := by
  have up : ∀ i j, i < j → j < l.length → ltS (key (l.getD i d)) (key (l.getD j d)) := fun i j hij hj => by
    have := List.pairwise_iff_getElem.1 h i j (by omega) hj hij
    simpa [List.getD_eq_getElem?_getD, hj, show i < l.length by omega] using this
  have uniq : ∀ i, i < l.length → key (l.getD i d) = n → i = p := fun i hi1 e => by
    rcases Nat.lt_trichotomy i p with z | z | z
    · have := lo i z; rw [e] at this; exact absurd this (ltS_irrefl _)
    · exact z
    · have h1 := up p i z hi1
      rw [e] at h1
      exact absurd h1 (hi p (Nat.le_refl _) (by omega))
  by_cases q : p < l.length ∧ key (l.getD p d) = n
  · rw [if_pos q]
    cases f : l.find? (fun a => decide (key a = n)) with
    | none =>
      have := List.find?_eq_none.1 f (l.getD p d) (getD_mem q.1 d)
      exact absurd (decide_eq_true q.2) this
    | some a =>
      have h1 := List.find?_some f
      obtain ⟨i, hi2, rfl⟩ := List.getElem_of_mem (List.mem_of_find?_eq_some f)
      have e : l.getD i d = l[i] := by simp [List.getD_eq_getElem?_getD, hi2]
      have := uniq i hi2 (by rw [e]; simpa using h1)
      subst this
      rw [e]
  · rw [if_neg q]
    refine List.find?_eq_none.2 fun a ha => ?_
    obtain ⟨i, hi2, rfl⟩ := List.getElem_of_mem ha
    have e : l.getD i d = l[i] := by simp [List.getD_eq_getElem?_getD, hi2]
    intro z
    have z : key l[i] = n := by simpa using z
    have := uniq i hi2 (by rw [e]; exact z)
    subst this
    exact q ⟨hi2, by rw [e]; exact z⟩
end Go.PL.Ty
end
section
open Go Go.PG Go.PL
set_option linter.all false
namespace Go.PL.Ty
abbrev dT : Tt := (0, [], [])
abbrev dF : Tf := (⟨#[]⟩, 0)
abbrev Pv := ByteArray × Vl
abbrev Ob := List Pv × Vl
abbrev dP : Pv := (⟨#[]⟩, 0, 0)
abbrev dO : Ob := ([], 0, 0)
theorem get_T (t : List Tt) (i : Nat) : P.get t (i : Int) (0, [], []) = t.getD i dT := get_nat t i _
theorem get_F (t : List Tf) (i : Nat) : P.get t (i : Int) (⟨#[]⟩, 0) = t.getD i dF := get_nat t i _
theorem get_I (t : List Int) (i : Nat) : P.get t (i : Int) 0 = t.getD i 0 := get_nat t i _
theorem get_P (t : List Pv) (i : Nat) : P.get t (i : Int) (⟨#[]⟩, 0, 0) = t.getD i dP := get_nat t i _
theorem get_O (t : List Ob) (i : Nat) : P.get t (i : Int) ([], 0, 0) = t.getD i dO := get_nat t i _
theorem get_dT (t : List Tt) (x : Int) : P.get t x (0, [], []) = at_ t x := rfl
abbrev RisesT (l : List Tf) : Prop := l.Pairwise fun a b => ltS a.1 b.1
theorem rises_nodup {l : List Tf} (h : RisesT l) : (l.map Prod.fst).Nodup := by
  rw [List.nodup_iff_pairwise_ne, List.pairwise_map]
  exact h.imp fun {a b} (q : ltS a.1 b.1) (e : a.1 = b.1) => ltS_irrefl b.1 (by rw [e] at q; exact q)
theorem fieldT_find (l : List Tf) (s : ByteArray) : fieldT l s = (l.find? fun a => decide (a.1 = s)).map Prod.snd := by
  induction l with
  | nil => rfl
  | cons f l ih =>
    simp only [fieldT, List.find?_cons]
    by_cases e : f.1 = s
    · simp [e]
    · simp [e, ih]
def fieldR (l : List Tf) (s : ByteArray) : Int × Bool := match fieldT l s with
  | some k => (k, true)
  | none => (0, false)
theorem at_field (x : Tt) (n : ByteArray) (h : RisesT x.2.1) (hl : x.2.1.length ≤ 1000000) : types_field K (x, n) = some (fieldR x.2.1 n) := by
  unfold types_field
  try dsimp only
  rw [len_eq]
  refine bs_goal Prod.fst dF x.2.1 n h hl (fun i j hij hj => ?_) (fun i => ?_) fun p hp lo hi => ?_
  · try dsimp only
    rw [show P.ilt (i : Int) (j : Int) = true from ilt_iff.2 (by omega), cond_true, show P.ile ((0 : Int)) ((1 : Int)) = true from by decide, cond_true, half (by omega), show P.inb (((i + j) / 2 : Nat) : Int) (x.2.1.length : Int) = true from inb_iff.2 (by omega), cond_true, get_F]
    unfold strings_Compare
    rw [bind_some, wrap_succ (by omega)]
    by_cases q : ltS (x.2.1.getD ((i + j) / 2) dF).1 n
    · rw [show P.ilt (Lib.compareBytes (x.2.1.getD ((i + j) / 2) dF).1.data.toList n.data.toList) ((0 : Int)) = true from ilt_iff.2 (cmpS_lt.2 q), cond_true, if_pos q]
    · rw [show P.ilt (Lib.compareBytes (x.2.1.getD ((i + j) / 2) dF).1.data.toList n.data.toList) ((0 : Int)) = false from by rw [Bool.eq_false_iff]; exact fun z => q (cmpS_lt.1 (ilt_iff.1 z)), cond_false, if_neg q]
  · try dsimp only
    rw [show P.ilt (i : Int) (i : Int) = false from by rw [Bool.eq_false_iff, Ne, ilt_iff]; omega, cond_false]
  · rw [either_inl]
    unfold fieldR
    rw [fieldT_find, bs_found Prod.fst dF x.2.1 n h hp lo hi]
    by_cases q : p < x.2.1.length
    · rw [show P.ilt (p : Int) (x.2.1.length : Int) = true from ilt_iff.2 (by omega), cond_true, show P.inb (p : Int) (x.2.1.length : Int) = true from inb_iff.2 (by omega), cond_true, get_F]
      unfold strings_Compare
      rw [bind_some]
      by_cases e : (x.2.1.getD p dF).1 = n
      · rw [show P.ieq (Lib.compareBytes (x.2.1.getD p dF).1.data.toList n.data.toList) 0 = true from ieq_iff.2 (cmpS_eq.2 e), not_true, cond_false, cond_true, if_pos ⟨q, e⟩]
        rfl
      · rw [show P.ieq (Lib.compareBytes (x.2.1.getD p dF).1.data.toList n.data.toList) 0 = false from by rw [Bool.eq_false_iff]; exact fun z => e (cmpS_eq.1 (ieq_iff.1 z)), not_false', cond_true, if_neg (fun z => e z.2)]
        rfl
    · rw [show P.ilt (p : Int) (x.2.1.length : Int) = false from by rw [Bool.eq_false_iff, Ne, ilt_iff]; omega, cond_false, not_false', cond_true, if_neg (fun z => q z.1)]
      rfl
theorem ref_field (x : Tt) (n : ByteArray) (hl : x.2.1.length ≤ 1000000) : ref24_Field K (x, n) = some (fieldR x.2.1 n) := by
  unfold ref24_Field
  try dsimp only
  rw [loop_find x.2.1 dF (fun b => b.1 = n) (fun b => (b.2, true)) (by omega) ?_ ?_]
  · unfold fieldR
    rw [fieldT_find]
    cases x.2.1.find? fun b => decide (b.1 = n) with
    | none => rfl
    | some b => rfl
  · intro i hi
    try dsimp only
    rw [ilt_len hi, cond_true, inb_len hi, cond_true, get_F, seq_dec, cond_dec, cond_true, wrap_succ (by omega)]
    split <;> rfl
  · try dsimp only
    rw [ilt_end, cond_false]
def Inb (n : Nat) (a : Int) : Prop := 0 ≤ a ∧ a < n
instance (n : Nat) (a : Int) : Decidable (Inb n a) := by unfold Inb; exact inferInstance
theorem at_place (k : Nat) (t : List Tt) (a : Int) : types_place k (t, a) = some (decide (Inb t.length a)) := by
  unfold types_place Inb
  try dsimp only
  rw [ile_dec, cond_dec, len_eq, ilt_dec]
  by_cases h : 0 ≤ a
  · rw [if_pos h]; simp [h]
  · rw [if_neg h]; simp [h]
def SmallT (t : List Tt) : Prop := (∀ x ∈ t, x.2.1.length ≤ 10 ∧ x.2.2.length ≤ 10) ∧ t.length ≤ 16
instance (t : List Tt) : Decidable (SmallT t) := by unfold SmallT; exact inferInstance
theorem ref_small (t : List Tt) (h : t.length ≤ 9223372036854775807) : ref24_Small K t = some (decide (SmallT t)) := by
  unfold ref24_Small
  try dsimp only
  rw [loop_all t.length (fun i => (t.getD i dT).2.1.length ≤ 10 ∧ (t.getD i dT).2.2.length ≤ 10) h (r := false) ?_ ?_]
  · by_cases q : ∀ f, f ∈ t → f.2.1.length ≤ 10 ∧ f.2.2.length ≤ 10
    · rw [if_pos (fun i hi => q _ (getD_mem hi dT)), ile_dec]
      refine congrArg some (decide_eq_decide.2 ?_)
      rw [len_eq]
      exact ⟨fun z => ⟨q, by omega⟩, fun z => by have := z.2; omega⟩
    · rw [if_neg (fun z => q ((forall_getD dT).1 z))]
      congr 1
      exact (decide_eq_false fun z => q z.1).symm
  · intro i hi
    try dsimp only
    rw [ilt_len hi, cond_true, inb_len hi, cond_true, get_T, cond_true, ilt_dec, ilt_dec, cond_dec, cond_dec, wrap_succ (by omega)]
    by_cases q : (t.getD i dT).2.1.length ≤ 10
    · rw [if_neg (by rw [len_eq]; omega)]
      by_cases q2 : (t.getD i dT).2.2.length ≤ 10
      · rw [if_neg (by rw [len_eq]; omega), if_pos ⟨q, q2⟩]
      · rw [if_pos (by rw [len_eq]; omega), if_neg (fun z => q2 z.2)]
    · rw [if_pos (by rw [len_eq]; omega), if_neg (fun z => q z.1)]
  · try dsimp only
    rw [ilt_end, cond_false]
end Go.PL.Ty
end
section
open Go Go.PG Go.PL
set_option linter.all false
namespace Go.PL.Ty
noncomputable def mayF (k : Nat) (x : List Tt) (y : Int) : Option (Int ⊕ (Unit ⊕ Bool)) := (P.bind (P.iter k (fun (y_1 : Int) => P.cond (P.ilt y_1 (P.len (P.get x y ((0 : Int), [], [])).snd.fst)) (P.cond (P.inb y_1 (P.len (P.get x y ((0 : Int), [], [])).snd.fst)) (P.cond (P.ilt (P.get (P.get x y ((0 : Int), [], [])).snd.fst y_1 ((ByteArray.mk #[]), (0 : Int))).snd ((0 : Int))) (some (Sum.inr (Sum.inr (Sum.inr (Sum.inr false))))) (P.cond (P.ile (P.len x) (P.get (P.get x y ((0 : Int), [], [])).snd.fst y_1 ((ByteArray.mk #[]), (0 : Int))).snd) (some (Sum.inr (Sum.inr (Sum.inr (Sum.inr false))))) (P.cond (P.ilt ((0 : Int)) y_1) (P.cond (P.inb (P.wrap IntKind.i64 (P.sub y_1 ((1 : Int)))) (P.len (P.get x y ((0 : Int), [], [])).snd.fst)) (P.cond (P.not (P.slt (P.get (P.get x y ((0 : Int), [], [])).snd.fst (P.wrap IntKind.i64 (P.sub y_1 ((1 : Int)))) ((ByteArray.mk #[]), (0 : Int))).fst (P.get (P.get x y ((0 : Int), [], [])).snd.fst y_1 ((ByteArray.mk #[]), (0 : Int))).fst)) (some (Sum.inr (Sum.inr (Sum.inr (Sum.inr false))))) (some (Sum.inl (P.wrap IntKind.i64 (P.add y_1 ((1 : Int))))))) none) (some (Sum.inl (P.wrap IntKind.i64 (P.add y_1 ((1 : Int))))))))) none) (some (Sum.inr (Sum.inl PUnit.unit)))) ((0 : Int))) (P.either (fun (z : PUnit) => P.bind (P.iter k (fun (y_1 : Int) => P.cond (P.ilt y_1 (P.len (P.get x y ((0 : Int), [], [])).snd.snd)) (P.cond (P.inb y_1 (P.len (P.get x y ((0 : Int), [], [])).snd.snd)) (P.cond (P.ilt (P.get (P.get x y ((0 : Int), [], [])).snd.snd y_1 ((0 : Int))) ((0 : Int))) (P.map (fun (r : Int ⊕ PUnit ⊕ Bool) => Sum.inr (Sum.inr r)) (P.cond (P.ile ((0 : Int)) y_1) (some (Sum.inr (Sum.inr false))) (some (Sum.inl (P.wrap IntKind.i64 (P.add y ((1 : Int)))))))) (P.cond (P.ile y (P.get (P.get x y ((0 : Int), [], [])).snd.snd y_1 ((0 : Int)))) (P.map (fun (r : Int ⊕ PUnit ⊕ Bool) => Sum.inr (Sum.inr r)) (P.cond (P.ile ((0 : Int)) y_1) (some (Sum.inr (Sum.inr false))) (some (Sum.inl (P.wrap IntKind.i64 (P.add y ((1 : Int)))))))) (some (Sum.inl (P.wrap IntKind.i64 (P.add y_1 ((1 : Int)))))))) none) (some (Sum.inr (Sum.inl PUnit.unit)))) ((0 : Int))) (P.either (fun (z : PUnit) => P.cond (P.ile ((0 : Int)) ((-1 : Int))) (some (Sum.inr (Sum.inr false))) (some (Sum.inl (P.wrap IntKind.i64 (P.add y ((1 : Int))))))) fun (r : Int ⊕ PUnit ⊕ Bool) => some r)) fun (r : Int ⊕ PUnit ⊕ Bool) => some r))
theorem mayF_form (k : Nat) (x : List Tt) : types_May k x = (fun (k : Nat) (x : T_api_Type.slice.D) => P.bind (P.iter k (fun (y : Int) => P.cond (P.ilt y (P.len x)) (P.cond (P.inb y (P.len x)) (P.cond (P.ilt (P.get x y ((0 : Int), [], [])).fst ((0 : Int))) (some (Sum.inr (Sum.inr false))) (P.cond (P.ile ((6 : Int)) (P.get x y ((0 : Int), [], [])).fst) (some (Sum.inr (Sum.inr false))) (P.cond (P.not (P.ieq (P.get x y ((0 : Int), [], [])).fst ((4 : Int)))) (P.cond (P.ilt ((0 : Int)) (P.len (P.get x y ((0 : Int), [], [])).snd.fst)) (some (Sum.inr (Sum.inr false))) (P.cond (P.not (P.ieq (P.get x y ((0 : Int), [], [])).fst ((5 : Int)))) (P.cond (P.ilt ((0 : Int)) (P.len (P.get x y ((0 : Int), [], [])).snd.snd)) (some (Sum.inr (Sum.inr false))) (mayF k x y)) (mayF k x y))) (P.cond (P.not (P.ieq (P.get x y ((0 : Int), [], [])).fst ((5 : Int)))) (P.cond (P.ilt ((0 : Int)) (P.len (P.get x y ((0 : Int), [], [])).snd.snd)) (some (Sum.inr (Sum.inr false))) (mayF k x y)) (mayF k x y))))) none) (some (Sum.inr (Sum.inl PUnit.unit)))) ((0 : Int))) (P.either (fun (z : PUnit) => some (P.ile (P.len x) ((200 : Int)))) fun (r : Bool) => some r)) k x := rfl
noncomputable def mayG (k : Nat) (x : List Tt) (y : Int) : Option (Int ⊕ (Unit ⊕ Bool)) := (P.bind (P.iter k (fun (y_1 : Int) => P.cond (P.ilt y_1 (P.len (P.get x y ((0 : Int), [], [])).snd.fst)) (P.cond (P.inb y_1 (P.len (P.get x y ((0 : Int), [], [])).snd.fst)) (P.cond (P.ilt (P.get (P.get x y ((0 : Int), [], [])).snd.fst y_1 ((ByteArray.mk #[]), (0 : Int))).snd ((0 : Int))) (some (Sum.inr (Sum.inr (Sum.inr (Sum.inr false))))) (P.cond (P.inb y_1 (P.len (P.get x y ((0 : Int), [], [])).snd.fst)) (P.cond (P.ile (P.len x) (P.get (P.get x y ((0 : Int), [], [])).snd.fst y_1 ((ByteArray.mk #[]), (0 : Int))).snd) (some (Sum.inr (Sum.inr (Sum.inr (Sum.inr false))))) (P.cond (P.ilt ((0 : Int)) y_1) (P.cond (P.inb (P.wrap IntKind.i64 (P.sub y_1 ((1 : Int)))) (P.len (P.get x y ((0 : Int), [], [])).snd.fst)) (P.cond (P.inb y_1 (P.len (P.get x y ((0 : Int), [], [])).snd.fst)) (P.cond (P.not (P.slt (P.get (P.get x y ((0 : Int), [], [])).snd.fst (P.wrap IntKind.i64 (P.sub y_1 ((1 : Int)))) ((ByteArray.mk #[]), (0 : Int))).fst (P.get (P.get x y ((0 : Int), [], [])).snd.fst y_1 ((ByteArray.mk #[]), (0 : Int))).fst)) (some (Sum.inr (Sum.inr (Sum.inr (Sum.inr false))))) (some (Sum.inl (P.wrap IntKind.i64 (P.add y_1 ((1 : Int))))))) none) none) (some (Sum.inl (P.wrap IntKind.i64 (P.add y_1 ((1 : Int)))))))) none)) none) (some (Sum.inr (Sum.inl PUnit.unit)))) ((0 : Int))) (P.either (fun (z : PUnit) => P.bind (P.iter k (fun (y_1 : Int) => P.cond (P.ilt y_1 (P.len (P.get x y ((0 : Int), [], [])).snd.snd)) (P.cond (P.inb y_1 (P.len (P.get x y ((0 : Int), [], [])).snd.snd)) (P.cond (P.ilt (P.get (P.get x y ((0 : Int), [], [])).snd.snd y_1 ((0 : Int))) ((0 : Int))) (some (Sum.inr (Sum.inr (Sum.inr (Sum.inr false))))) (P.cond (P.inb y_1 (P.len (P.get x y ((0 : Int), [], [])).snd.snd)) (P.cond (P.ile y (P.get (P.get x y ((0 : Int), [], [])).snd.snd y_1 ((0 : Int)))) (some (Sum.inr (Sum.inr (Sum.inr (Sum.inr false))))) (some (Sum.inl (P.wrap IntKind.i64 (P.add y_1 ((1 : Int))))))) none)) none) (some (Sum.inr (Sum.inl PUnit.unit)))) ((0 : Int))) (P.either (fun (z : PUnit) => some (Sum.inl (P.wrap IntKind.i64 (P.add y ((1 : Int)))))) fun (r : Int ⊕ PUnit ⊕ Bool) => some r)) fun (r : Int ⊕ PUnit ⊕ Bool) => some r))
theorem mayG_form (k : Nat) (x : List Tt) : ref24_May k x = (fun (k : Nat) (x : T_api_Type.slice.D) => P.bind (P.iter k (fun (y : Int) => P.cond (P.ilt y (P.len x)) (P.cond (P.inb y (P.len x)) (P.cond (P.ilt (P.get x y ((0 : Int), [], [])).fst ((0 : Int))) (some (Sum.inr (Sum.inr false))) (P.cond (P.ilt ((5 : Int)) (P.get x y ((0 : Int), [], [])).fst) (some (Sum.inr (Sum.inr false))) (P.cond (P.not (P.ieq (P.get x y ((0 : Int), [], [])).fst ((4 : Int)))) (P.cond (P.ilt ((0 : Int)) (P.len (P.get x y ((0 : Int), [], [])).snd.fst)) (some (Sum.inr (Sum.inr false))) (P.cond (P.not (P.ieq (P.get x y ((0 : Int), [], [])).fst ((5 : Int)))) (P.cond (P.ilt ((0 : Int)) (P.len (P.get x y ((0 : Int), [], [])).snd.snd)) (some (Sum.inr (Sum.inr false))) (mayG k x y)) (mayG k x y))) (P.cond (P.not (P.ieq (P.get x y ((0 : Int), [], [])).fst ((5 : Int)))) (P.cond (P.ilt ((0 : Int)) (P.len (P.get x y ((0 : Int), [], [])).snd.snd)) (some (Sum.inr (Sum.inr false))) (mayG k x y)) (mayG k x y))))) none) (some (Sum.inr (Sum.inl PUnit.unit)))) ((0 : Int))) (P.either (fun (z : PUnit) => some (P.ile (P.len x) ((200 : Int)))) fun (r : Bool) => some r)) k x := rfl
def FOk (t : List Tt) (l : List Tf) (k : Nat) : Prop := 0 ≤ (l.getD k dF).2 ∧ (l.getD k dF).2 < (t.length : Int) ∧ (0 < k → ltS (l.getD (k - 1) dF).1 (l.getD k dF).1)
open Classical in
noncomputable instance (t : List Tt) (l : List Tf) (k : Nat) : Decidable (FOk t l k) := propDecidable _
def EOk (i : Nat) (l : List Int) (k : Nat) : Prop := 0 ≤ l.getD k 0 ∧ l.getD k 0 < (i : Int)
instance (i : Nat) (l : List Int) (k : Nat) : Decidable (EOk i l k) := by unfold EOk; exact inferInstance
def InnerOk (t : List Tt) (i : Nat) : Prop := (∀ k, k < (t.getD i dT).2.1.length → FOk t (t.getD i dT).2.1 k) ∧ ∀ k, k < (t.getD i dT).2.2.length → EOk i (t.getD i dT).2.2 k
def RowOk (t : List Tt) (i : Nat) : Prop := 0 ≤ (t.getD i dT).1 ∧ (t.getD i dT).1 < 6 ∧ ((t.getD i dT).1 = 4 ∨ (t.getD i dT).2.1 = []) ∧ ((t.getD i dT).1 = 5 ∨ (t.getD i dT).2.2 = []) ∧ InnerOk t i
open Classical in
noncomputable instance (t : List Tt) (i : Nat) : Decidable (InnerOk t i) := propDecidable _
open Classical in
noncomputable instance (t : List Tt) (i : Nat) : Decidable (RowOk t i) := propDecidable _
def MayD (t : List Tt) : Prop := (∀ i, i < t.length → RowOk t i) ∧ t.length ≤ 200
open Classical in
noncomputable instance (t : List Tt) : Decidable (MayD t) := propDecidable _
theorem wrap_pred' {n : Nat} (h0 : 0 < n) (h : n < 9223372036854775808) : P.wrap IntKind.i64 (P.sub (n : Int) ((1 : Int))) = ((n - 1 : Nat) : Int) := wrap_pred h0 h
theorem fields_step (t : List Tt) (l : List Tf) (j : Nat) (hj : j < l.length) (hl : l.length ≤ 1000000) {α : Type} {X Y : α} :
    (P.cond (P.ilt (l.getD j dF).2 ((0 : Int))) X (P.cond (P.ile (P.len t) (l.getD j dF).2) X (P.cond (P.ilt ((0 : Int)) (j : Int)) (P.cond (P.not (P.slt (l.getD (j - 1) dF).1 (l.getD j dF).1)) X Y) Y))) = if FOk t l j then Y else X := by
  rw [ilt_dec, cond_dec, ile_dec, cond_dec, ilt_dec, cond_dec, slt_dec, cond_ndec, len_eq]
  by_cases a : (l.getD j dF).2 < 0
  · rw [if_pos a, if_neg (fun z => by have := z.1; omega)]
  · by_cases b : (t.length : Int) ≤ (l.getD j dF).2
    · rw [if_neg a, if_pos b, if_neg (fun z => by have := z.2.1; omega)]
    · rw [if_neg a, if_neg b]
      by_cases c : j = 0
      · rw [if_neg (by omega), if_pos ⟨by omega, by omega, fun z => by omega⟩]
      · rw [if_pos (by omega)]
        by_cases e : ltS (l.getD (j - 1) dF).1 (l.getD j dF).1
        · rw [if_pos e, if_pos ⟨by omega, by omega, fun _ => e⟩]
        · rw [if_neg e, if_neg (fun z => e (z.2.2 (by omega)))]
theorem mayF_eq (t : List Tt) (i : Nat) (hi : i < 1000000) (h1 : (t.getD i dT).2.1.length ≤ 1000000) (h2 : (t.getD i dT).2.2.length ≤ 1000000) : mayF K t (i : Int) = some (if InnerOk t i then .inl ((i + 1 : Nat) : Int) else .inr (.inr false)) := by
  unfold mayF
  rw [get_T]
  generalize hx : t.getD i dT = x at *
  rw [loop_all x.2.1.length (fun j => FOk t x.2.1 j) (by omega) (r := .inr (.inr false)) ?_ ?_]
  · rw [loop_all x.2.2.length (fun j => EOk i x.2.2 j) (by omega) (r := .inr (.inr false)) ?_ ?_]
    · rw [show P.ile ((0 : Int)) ((-1 : Int)) = false from by decide, cond_false, wrap_succ (by omega)]
      have hI : InnerOk t i ↔ (∀ k, k < x.2.1.length → FOk t x.2.1 k) ∧ ∀ k, k < x.2.2.length → EOk i x.2.2 k := by unfold InnerOk; rw [hx]
      by_cases a : ∀ k, k < x.2.1.length → FOk t x.2.1 k
      · rw [if_pos a]
        by_cases b : ∀ k, k < x.2.2.length → EOk i x.2.2 k
        · rw [if_pos b, if_pos (hI.2 ⟨a, b⟩)]
        · rw [if_neg b, if_neg (fun z => b (hI.1 z).2)]
      · rw [if_neg a, if_neg (fun z => a (hI.1 z).1)]
    · intro j hj
      try dsimp only
      rw [ilt_len hj, cond_true, inb_len hj, cond_true, get_I, wrap_succ (by omega), show P.ile ((0 : Int)) (j : Int) = true from ile_iff.2 (by omega), cond_true, ilt_dec, cond_dec, ile_dec, cond_dec]
      by_cases a : x.2.2.getD j 0 < 0
      · rw [if_pos a, if_neg (fun z => by have := z.1; omega)]; rfl
      · by_cases b : (i : Int) ≤ x.2.2.getD j 0
        · rw [if_neg a, if_pos b, if_neg (fun z => by have := z.2; omega)]; rfl
        · rw [if_neg a, if_neg b, if_pos ⟨by omega, by omega⟩, wrap_succ (by omega)]
    · try dsimp only
      rw [ilt_end, cond_false]
  · intro j hj
    try dsimp only
    rw [ilt_len hj, cond_true, inb_len hj, cond_true, get_F, wrap_succ (by omega)]
    by_cases c : j = 0
    · subst c
      have := fields_step t x.2.1 0 hj h1 (X := (some (.inr (.inr (.inr (.inr false)))) : Option (Int ⊕ (Unit ⊕ (Int ⊕ (Unit ⊕ Bool)))))) (Y := some (.inl ((0 + 1 : Nat) : Int)))
      rw [show P.ilt ((0 : Int)) ((0 : Nat) : Int) = false from by decide, cond_false] at this ⊢
      rw [this]
      split <;> rfl
    · rw [wrap_pred' (by omega) (by omega), inb_len (show j - 1 < x.2.1.length by omega), cond_true, get_F, fields_step t x.2.1 j hj h1]
      split <;> rfl
  · try dsimp only
    rw [ilt_end, cond_false]
theorem mayG_eq (t : List Tt) (i : Nat) (hi : i < 1000000) (h1 : (t.getD i dT).2.1.length ≤ 1000000) (h2 : (t.getD i dT).2.2.length ≤ 1000000) : mayG K t (i : Int) = some (if InnerOk t i then .inl ((i + 1 : Nat) : Int) else .inr (.inr false)) := by
  unfold mayG
  rw [get_T]
  generalize hx : t.getD i dT = x at *
  rw [loop_all x.2.1.length (fun j => FOk t x.2.1 j) (by omega) (r := .inr (.inr false)) ?_ ?_]
  · rw [loop_all x.2.2.length (fun j => EOk i x.2.2 j) (by omega) (r := .inr (.inr false)) ?_ ?_]
    · rw [wrap_succ (by omega)]
      have hI : InnerOk t i ↔ (∀ k, k < x.2.1.length → FOk t x.2.1 k) ∧ ∀ k, k < x.2.2.length → EOk i x.2.2 k := by unfold InnerOk; rw [hx]
      by_cases a : ∀ k, k < x.2.1.length → FOk t x.2.1 k
      · rw [if_pos a]
        by_cases b : ∀ k, k < x.2.2.length → EOk i x.2.2 k
        · rw [if_pos b, if_pos (hI.2 ⟨a, b⟩)]
        · rw [if_neg b, if_neg (fun z => b (hI.1 z).2)]
      · rw [if_neg a, if_neg (fun z => a (hI.1 z).1)]
    · intro j hj
      try dsimp only
      rw [ilt_len hj, cond_true, inb_len hj, cond_true, get_I, wrap_succ (by omega), cond_true, ilt_dec, cond_dec, ile_dec, cond_dec]
      by_cases a : x.2.2.getD j 0 < 0
      · rw [if_pos a, if_neg (fun z => by have := z.1; omega)]
      · by_cases b : (i : Int) ≤ x.2.2.getD j 0
        · rw [if_neg a, if_pos b, if_neg (fun z => by have := z.2; omega)]
        · rw [if_neg a, if_neg b, if_pos ⟨by omega, by omega⟩]
    · try dsimp only
      rw [ilt_end, cond_false]
  · intro j hj
    try dsimp only
    rw [ilt_len hj, cond_true, inb_len hj, cond_true, get_F, cond_true, wrap_succ (by omega)]
    by_cases c : j = 0
    · subst c
      have := fields_step t x.2.1 0 hj h1 (X := (some (.inr (.inr (.inr (.inr false)))) : Option (Int ⊕ (Unit ⊕ (Int ⊕ (Unit ⊕ Bool)))))) (Y := some (.inl ((0 + 1 : Nat) : Int)))
      rw [show P.ilt ((0 : Int)) ((0 : Nat) : Int) = false from by decide, cond_false] at this ⊢
      rw [this]
      split <;> rfl
    · rw [wrap_pred' (by omega) (by omega), inb_len (show j - 1 < x.2.1.length by omega), cond_true, get_F, cond_true, fields_step t x.2.1 j hj h1]
      split <;> rfl
  · try dsimp only
    rw [ilt_end, cond_false]
def FewTab (t : List Tt) : Prop := t.length ≤ 100000 ∧ ∀ x ∈ t, x.2.1.length ≤ 1000000 ∧ x.2.2.length ≤ 1000000
theorem few_at {t : List Tt} (h : FewTab t) {i : Nat} (hi : i < t.length) : (t.getD i dT).2.1.length ≤ 1000000 ∧ (t.getD i dT).2.2.length ≤ 1000000 := h.2 _ (getD_mem hi dT)
theorem row_step (t : List Tt) (i : Nat) {α : Type} {X Y : α} (a : Int) (hb : ∀ z : Int, (P.cond (P.ilt z 0) X (P.cond (P.ile 6 z) X Y)) = (P.cond (P.ilt z 0) X (P.cond (P.ile 6 z) X Y))) :
    (P.cond (P.ilt (t.getD i dT).1 ((0 : Int))) X (P.cond (P.ile ((6 : Int)) (t.getD i dT).1) X (P.cond (P.not (P.ieq (t.getD i dT).1 ((4 : Int)))) (P.cond (P.ilt ((0 : Int)) (P.len (t.getD i dT).2.1)) X (P.cond (P.not (P.ieq (t.getD i dT).1 ((5 : Int)))) (P.cond (P.ilt ((0 : Int)) (P.len (t.getD i dT).2.2)) X (if InnerOk t i then Y else X)) (if InnerOk t i then Y else X))) (P.cond (P.not (P.ieq (t.getD i dT).1 ((5 : Int)))) (P.cond (P.ilt ((0 : Int)) (P.len (t.getD i dT).2.2)) X (if InnerOk t i then Y else X)) (if InnerOk t i then Y else X))))) = if RowOk t i then Y else X := by
  simp only [ilt_dec, ile_dec, ieq_eq, cond_dec, cond_ndec, len_eq]
  have z1 : (0 : Int) < ((t.getD i dT).2.1.length : Int) ↔ ¬ (t.getD i dT).2.1 = [] := by rw [← Ne, ← List.length_pos_iff]; omega
  have z2 : (0 : Int) < ((t.getD i dT).2.2.length : Int) ↔ ¬ (t.getD i dT).2.2 = [] := by rw [← Ne, ← List.length_pos_iff]; omega
  by_cases a1 : (t.getD i dT).1 < 0
  · rw [if_pos a1, if_neg (fun z => by have := z.1; omega)]
  · by_cases a2 : 6 ≤ (t.getD i dT).1
    · rw [if_neg a1, if_pos a2, if_neg (fun z => by have := z.2.1; omega)]
    · rw [if_neg a1, if_neg a2]
      by_cases a3 : (t.getD i dT).1 = 4
      · rw [if_pos a3, if_neg (by omega)]
        by_cases a5 : (t.getD i dT).2.2 = []
        · rw [if_neg (fun z => z2.1 z a5)]
          by_cases a6 : InnerOk t i
          · rw [if_pos a6, if_pos ⟨by omega, by omega, .inl a3, .inr a5, a6⟩]
          · rw [if_neg a6, if_neg (fun z => a6 z.2.2.2.2)]
        · rw [if_pos (z2.2 a5), if_neg (fun z => by rcases z.2.2.2.1 with y | y; omega; exact a5 y)]
      · rw [if_neg a3]
        by_cases a4 : (t.getD i dT).2.1 = []
        · rw [if_neg (fun z => z1.1 z a4)]
          by_cases a7 : (t.getD i dT).1 = 5
          · rw [if_pos a7]
            by_cases a6 : InnerOk t i
            · rw [if_pos a6, if_pos ⟨by omega, by omega, .inr a4, .inl a7, a6⟩]
            · rw [if_neg a6, if_neg (fun z => a6 z.2.2.2.2)]
          · rw [if_neg a7]
            by_cases a5 : (t.getD i dT).2.2 = []
            · rw [if_neg (fun z => z2.1 z a5)]
              by_cases a6 : InnerOk t i
              · rw [if_pos a6, if_pos ⟨by omega, by omega, .inr a4, .inr a5, a6⟩]
              · rw [if_neg a6, if_neg (fun z => a6 z.2.2.2.2)]
            · rw [if_pos (z2.2 a5), if_neg (fun z => by rcases z.2.2.2.1 with y | y; exact a7 y; exact a5 y)]
        · rw [if_pos (z1.2 a4), if_neg (fun z => by rcases z.2.2.1 with y | y; exact a3 y; exact a4 y)]
theorem may_end (t : List Tt) : (if ∀ i, i < t.length → RowOk t i then some (P.ile (P.len t) ((200 : Int))) else some false) = some (decide (MayD t)) := by
  by_cases q : ∀ i, i < t.length → RowOk t i
  · rw [if_pos q, ile_dec]
    refine congrArg some (decide_eq_decide.2 ?_)
    rw [len_eq]
    exact ⟨fun z => ⟨q, by omega⟩, fun z => by have := z.2; omega⟩
  · rw [if_neg q]
    exact congrArg some (decide_eq_false fun z => q z.1).symm
theorem at_may (t : List Tt) (h : FewTab t) : types_May K t = some (decide (MayD t)) := by
  rw [mayF_form]
  try dsimp only
  rw [loop_all t.length (fun i => RowOk t i) (by have := h.1; omega) (r := false) ?_ ?_]
  · exact may_end t
  · intro i hi
    obtain ⟨h1, h2⟩ := few_at h hi
    try dsimp only
    rw [ilt_len hi, cond_true, inb_len hi, cond_true, get_T, mayF_eq t i (by have := h.1; omega) h1 h2]
    have := row_step t i (X := (some (.inr (.inr false)) : Option (Int ⊕ (Unit ⊕ Bool)))) (Y := some (.inl ((i + 1 : Nat) : Int))) 0 (fun _ => rfl)
    rw [← apply_ite some] at this
    rw [show (some (if InnerOk t i then (.inl ((i + 1 : Nat) : Int)) else .inr (.inr false)) : Option (Int ⊕ (Unit ⊕ Bool))) = if InnerOk t i then some (.inl ((i + 1 : Nat) : Int)) else some (.inr (.inr false)) from apply_ite some _ _ _]
    rw [← apply_ite some]
    exact this.trans (apply_ite some _ _ _).symm
  · try dsimp only
    rw [ilt_end, cond_false]
theorem ref_may (t : List Tt) (h : FewTab t) : ref24_May K t = some (decide (MayD t)) := by
  rw [mayG_form]
  try dsimp only
  rw [loop_all t.length (fun i => RowOk t i) (by have := h.1; omega) (r := false) ?_ ?_]
  · exact may_end t
  · intro i hi
    obtain ⟨h1, h2⟩ := few_at h hi
    try dsimp only
    rw [ilt_len hi, cond_true, inb_len hi, cond_true, get_T, mayG_eq t i (by have := h.1; omega) h1 h2]
    have e : ∀ z : Int, P.ilt ((5 : Int)) z = P.ile ((6 : Int)) z := fun z => by rw [ilt_dec, ile_dec, decide_eq_decide]; omega
    rw [e]
    have := row_step t i (X := (some (.inr (.inr false)) : Option (Int ⊕ (Unit ⊕ Bool)))) (Y := some (.inl ((i + 1 : Nat) : Int))) 0 (fun _ => rfl)
    rw [show (some (if InnerOk t i then (.inl ((i + 1 : Nat) : Int)) else .inr (.inr false)) : Option (Int ⊕ (Unit ⊕ Bool))) = if InnerOk t i then some (.inl ((i + 1 : Nat) : Int)) else some (.inr (.inr false)) from apply_ite some _ _ _]
    exact this.trans (apply_ite some _ _ _).symm
  · try dsimp only
    rw [ilt_end, cond_false]
theorem mayD_mayT {t : List Tt} (h : MayD t) : MayT t := by
  have row : ∀ (i : Nat) (x : Tt), t[i]? = some x → t.getD i dT = x ∧ RowOk t i := fun i x hx => by
    have hi := (List.getElem?_eq_some_iff.1 hx).1
    exact ⟨by rw [List.getD_eq_getElem?_getD, hx]; rfl, h.1 i hi⟩
  refine ⟨fun i x hx e he => ?_, fun i x hx f hf => ?_, fun i x hx => ?_, fun i x hx => ?_⟩
  · obtain ⟨rfl, r⟩ := row i x hx
    exact (forall_getD (p := fun e => 0 ≤ e ∧ e < (i : Int)) 0).1 (fun k hk => r.2.2.2.2.2 k hk) e he
  · obtain ⟨rfl, r⟩ := row i x hx
    exact (forall_getD (p := fun f : Tf => 0 ≤ f.2 ∧ f.2 < (t.length : Int)) dF).1 (fun k hk => ⟨(r.2.2.2.2.1 k hk).1, (r.2.2.2.2.1 k hk).2.1⟩) f hf
  · obtain ⟨rfl, r⟩ := row i x hx
    exact rises_nodup ((pair_steps (R := fun a b : Tf => ltS a.1 b.1) (fun a b => ltS_trans a b) _ dF).1 fun k hk h0 => (r.2.2.2.2.1 k hk).2.2 h0)
  · obtain ⟨rfl, r⟩ := row i x hx
    exact ⟨r.1, by have := r.2.1; omega, fun z => by rcases r.2.2.1 with y | y; exact absurd y z; exact y, fun z => by rcases r.2.2.2.1 with y | y; exact absurd y z; exact y⟩
theorem mayD_rises {t : List Tt} (h : MayD t) (x : Int) : RisesT (at_ t x).2.1 := by
  rcases at_cases t x with ⟨i, _, q⟩ | ⟨i, _, q⟩ | q
  · have hi := (List.getElem?_eq_some_iff.1 q).1
    have r := h.1 i hi
    have e : t.getD i dT = at_ t x := by rw [List.getD_eq_getElem?_getD, q]; rfl
    have := (pair_steps (R := fun a b : Tf => ltS a.1 b.1) (fun a b => ltS_trans a b) (t.getD i dT).2.1 dF).1 fun k hk h0 => (r.2.2.2.2.1 k hk).2.2 h0
    rwa [e] at this
  · have hi := (List.getElem?_eq_some_iff.1 q).1
    have r := h.1 i hi
    have e : t.getD i dT = at_ t x := by rw [List.getD_eq_getElem?_getD, q]; rfl
    have := (pair_steps (R := fun a b : Tf => ltS a.1 b.1) (fun a b => ltS_trans a b) (t.getD i dT).2.1 dF).1 fun k hk h0 => (r.2.2.2.2.1 k hk).2.2 h0
    rwa [e] at this
  · rw [q]; exact List.Pairwise.nil
end Go.PL.Ty
end
section
open Go Go.PG Go.PL Go.PL.Sv
set_option linter.all false
namespace Go.PL.Ty
section
variable {κ : Type} [DecidableEq κ] {f : κ → κ → Bool}
abbrev Mt (κ : Type) := List (κ × Bool) × List (κ × Option (List κ)) × List κ
def toSt (f : κ → κ → Bool) (m : Mt κ) : St κ := ⟨outOf f m.1, onOf f m.2.1, m.2.2⟩
def ansM (f : κ → κ → Bool) (m : Mt κ) (o : κ) : Bool := if P.mhas f m.1 o = true then P.mval f m.1 o false else true
def hold1 (f : κ → κ → Bool) (k : κ) (m : Mt κ) (o : κ) : Mt κ :=
  (if P.mhas f m.1 o = true then m.1 else P.mput f m.1 o true, P.mput f (P.dtake f m.2.1 o) o (some (P.app (onOf f m.2.1 o) [k])), if P.mhas f m.1 o = true then m.2.2 else P.app m.2.2 [o])
theorem ansM_eq (m : Mt κ) (o : κ) : ansM f m o = ans (toSt f m) o := by
  unfold ansM ans
  show _ = (outOf f m.1 o).getD true
  unfold outOf
  split <;> rfl
theorem hold1_st (hf : ∀ x y, f x y = true ↔ x = y) (k : κ) (m : Mt κ) (o : κ) (ht : Tidy m.2.1) : toSt f (hold1 f k m o) = ask1 k (toSt f m) o ∧ Tidy (hold1 f k m o).2.1 := by
  obtain ⟨h1, h2⟩ := put_take hf o (P.app (onOf f m.2.1 o) [k]) ht
  refine ⟨?_, h1⟩
  have e : outOf f m.1 o = none ↔ ¬ P.mhas f m.1 o = true := by unfold outOf; split <;> simp_all
  unfold toSt hold1 ask1
  simp only [h2]
  by_cases q : P.mhas f m.1 o = true
  · have : ¬ outOf f m.1 o = none := fun z => e.1 z q
    rw [if_pos q, if_pos q, if_neg this, if_neg this]
    rfl
  · have : outOf f m.1 o = none := e.2 q
    rw [if_neg q, if_neg q, if_pos this, if_pos this, out_put hf]
    rfl
theorem hold1_work (k : κ) (m : Mt κ) (o : κ) : (hold1 f k m o).2.2.length ≤ m.2.2.length + 1 := by
  unfold hold1
  simp only
  split
  · omega
  · simp [P.app]
theorem hold1_on (hf : ∀ x y, f x y = true ↔ x = y) (k : κ) (m : Mt κ) (o x : κ) (ht : Tidy m.2.1) : (onOf f (hold1 f k m o).2.1 x).length ≤ (onOf f m.2.1 x).length + 1 := by
  have := (hold1_st hf k m o ht).1
  have := congrFun (congrArg St.on this) x
  have e : onOf f (hold1 f k m o).2.1 x = up (onOf f m.2.1) o (onOf f m.2.1 o ++ [k]) x := this
  rw [e]
  by_cases q : x = o
  · subst q; rw [up_self]; simp
  · rw [up_ne _ _ q]; omega
theorem all_loop (hf : ∀ x y, f x y = true ↔ x = y) {ι ρ σ : Type} (L : List ι) (d : ι) (keyf : ι → Option κ) (c : Bool → Bool) (k : κ) (m0 : Mt κ) (W : Nat) (hW : m0.2.2.length ≤ W) (hon : ∀ o, (onOf f m0.2.1 o).length ≤ W) (ht : Tidy m0.2.1) (hn : L.length ≤ 1000000000)
    {F : Bool × Int × Mt κ → Option ((Bool × Int × Mt κ) ⊕ ((Bool × Mt κ) ⊕ ρ))} {A : Bool × Mt κ → Option σ} {B : ρ → Option σ} (Q : Option σ → Prop)
    (hs : ∀ (ok : Bool) (i : Nat) (m : Mt κ), i < L.length → Tidy m.2.1 → m.2.2.length ≤ W + i → (∀ o, (onOf f m.2.1 o).length ≤ W + i) → F (ok, (i : Int), m) = some (.inl (match keyf (L.getD i d) with
      | none => (false, ((i + 1 : Nat) : Int), m)
      | some o => (ok && c (ansM f m o), ((i + 1 : Nat) : Int), hold1 f k m o))))
    (he : ∀ ok m, F (ok, (L.length : Int), m) = some (.inr (.inl (ok, m))))
    (fin : ∀ m', Tidy m'.2.1 → toSt f m' = asks k (L.filterMap keyf) (toSt f m0) → m'.2.2.length ≤ W + L.length → (∀ o, (onOf f m'.2.1 o).length ≤ W + L.length) → Q (A (L.all (fun x => match keyf x with
      | none => false
      | some o => c (ans (toSt f m0) o)), m'))) : Q (P.bind (P.iter K F (true, 0, m0)) (P.either A B)) := by
  have key : ∀ (n i q : Nat) (ok : Bool) (m : Mt κ), i + n = L.length → n < q → Tidy m.2.1 → m.2.2.length ≤ W + i → (∀ o, (onOf f m.2.1 o).length ≤ W + i) →
      ∃ m', Tidy m'.2.1 ∧ toSt f m' = asks k ((L.drop i).filterMap keyf) (toSt f m) ∧ m'.2.2.length ≤ W + L.length ∧ (∀ o, (onOf f m'.2.1 o).length ≤ W + L.length) ∧ P.iter q F (ok, (i : Int), m) = some (.inl (ok && (L.drop i).all (fun x => match keyf x with
        | none => false
        | some o => c (ans (toSt f m) o)), m')) := by
    intro n
    induction n with
    | zero =>
      intro i q ok m hi hq hT h1 h2
      obtain rfl : i = L.length := by omega
      refine ⟨m, hT, by simp [asks], h1, h2, ?_⟩
      rw [iter_done (by omega) (he ok m)]
      simp
    | succ n ih =>
      intro i q ok m hi hq hT h1 h2
      have hl : i < L.length := by omega
      have hd : L.drop i = L.getD i d :: L.drop (i + 1) := by
        rw [List.drop_eq_getElem_cons hl]
        simp [List.getD_eq_getElem?_getD, hl]
      have h := hs ok i m hl hT h1 h2
      rw [iter_step (by omega) h, hd]
      cases hk : keyf (L.getD i d) with
      | none =>
        obtain ⟨m', g1, g2, g3, g4, g5⟩ := ih (i + 1) (q - 1) false m (by omega) (by omega) hT (by omega) (fun o => by have := h2 o; omega)
        refine ⟨m', g1, ?_, g3, g4, ?_⟩
        · rw [g2, List.filterMap_cons, hk]
        · simp only [hk]
          rw [g5, List.all_cons]
          simp only [hk, Bool.false_and, Bool.and_false]
      | some o =>
        obtain ⟨e1, e2⟩ := hold1_st hf k m o hT
        obtain ⟨m', g1, g2, g3, g4, g5⟩ := ih (i + 1) (q - 1) (ok && c (ansM f m o)) (hold1 f k m o) (by omega) (by omega) e2 (by have := hold1_work (f := f) k m o; omega) (fun x => by have := hold1_on hf k m o x hT; have := h2 x; omega)
        refine ⟨m', g1, ?_, g3, g4, ?_⟩
        · rw [g2, List.filterMap_cons, hk, e1]
          rfl
        · simp only [hk]
          rw [g5, e1, ask1_ans, ansM_eq, List.all_cons]
          simp only [hk, Bool.and_assoc]
  obtain ⟨m', g1, g2, g3, g4, g5⟩ := key L.length 0 K true m0 (by omega) (by unfold K; omega) ht (by omega) (fun o => by have := hon o; omega)
  rw [show ((0 : Nat) : Int) = 0 from rfl] at g5
  rw [g5, bind_some, either_inl, Bool.true_and, List.drop_zero]
  rw [List.drop_zero] at g2
  exact fin m' g1 g2 g3 g4
theorem last_key (w : List κ) (k d : κ) (hl : w.length ≤ 1000000000) : P.wrap .i64 (P.sub (P.len (w ++ [k])) 1) = (w.length : Int) ∧ P.get (w ++ [k]) (w.length : Int) d = k ∧ P.sub_ (w ++ [k]) 0 (w.length : Int) = w ∧ P.ilt 0 (P.len (w ++ [k])) = true ∧ P.inb (w.length : Int) (P.len (w ++ [k])) = true ∧ P.cut 0 (w.length : Int) (P.len (w ++ [k])) = true := by
  have e : P.len (w ++ [k]) = ((w.length + 1 : Nat) : Int) := by rw [len_eq]; simp
  refine ⟨?_, ?_, ?_, ?_, ?_, ?_⟩
  · rw [e, show P.sub ((w.length + 1 : Nat) : Int) 1 = (w.length : Int) from by simp [P.sub], wrap_nat (by omega)]
  · rw [get_nat]; simp [List.getD_eq_getElem?_getD]
  · simp [P.sub_]
  · rw [e]; exact ilt_iff.2 (by omega)
  · rw [e]; exact inb_iff.2 (by omega)
  · rw [e]; exact cut_iff.2 (by omega)
def Done (f : κ → κ → Bool) {ρ : Type} (S : St κ) (z : Option ((List κ × List (κ × Bool) × List (κ × Option (List κ))) ⊕ ρ)) : Prop := ∃ m' : Mt κ, z = some (.inl (m'.2.2, m'.1, m'.2.1)) ∧ Tidy m'.2.1 ∧ toSt f m' = S
open Classical in
theorem solve_goal (hf : ∀ x y, f x y = true ↔ x = y) {asked : κ → List κ} {rule : κ → (κ → Bool) → Bool} (mono : ∀ k (f g : κ → Bool), (∀ o ∈ asked k, f o = true → g o = true) → rule k f = true → rule k g = true) {U : List κ} {start : κ} (hU : ∀ k ∈ U, ∀ o ∈ asked k, o ∈ U) (hst : start ∈ U)
    (hm : ∀ k, (asked k).length ≤ 10) (hlen : U.length ≤ 10000) {ρ : Type} {G : List κ × List (κ × Bool) × List (κ × Option (List κ)) → Option ((List κ × List (κ × Bool) × List (κ × Option (List κ))) ⊕ ((List (κ × Bool) × List (κ × Option (List κ))) ⊕ ρ))} {B : ρ → Option Bool}
    (hs : ∀ (w : List κ) (k : κ) (out : List (κ × Bool)) (on : List (κ × Option (List κ))), k ∈ U → Tidy on → w.length ≤ 1000000000 → (∀ o, (onOf f on o).length ≤ 1000000000) →
      Done f (Sv.step asked rule (toSt f (out, on, w ++ [k])) k w) (G (w ++ [k], out, on)))
    (he : ∀ out on, G ([], out, on) = some (.inr (.inl (out, on)))) :
    P.bind (P.iter K G ([start], P.mput f [] start true, [])) (P.either (fun z => some (P.mval f z.1 start false)) B) = some (decide (Gfp rule start)) := by
  have key : ∀ (n q : Nat) (ps : List κ) (m : Mt κ), U.length * 2 ^ 10 < ps.length + n → n ≤ q → Tidy m.2.1 → Inv asked rule U start ps (toSt f m) →
      ∃ out on, P.iter q G (m.2.2, m.1, m.2.1) = some (.inl (out, on)) ∧ P.mval f out start false = decide (Gfp rule start) := by
    intro n
    induction n with
    | zero => intro q ps m h1 _ _ I; have := I.ps_len hm; omega
    | succ n ih =>
      intro q ps m h1 h2 hT I
      rcases List.eq_nil_or_concat m.2.2 with hw | ⟨w, k, hw⟩
      · refine ⟨m.1, m.2.1, ?_, ?_⟩
        · rw [hw, iter_done (by omega) (he m.1 m.2.1)]
        · rw [val_of]
          have hd := I.done mono hw
          by_cases g : Gfp rule start
          · have := hd.2 g
            have e : outOf f m.1 start = some true := this
            rw [e]; simp [g]
          · have e : ¬ outOf f m.1 start = some true := fun z => g (hd.1 z)
            rw [decide_eq_false g]
            cases z : outOf f m.1 start with
            | none => rfl
            | some b => cases b with
              | false => rfl
              | true => exact absurd z e
      · have hw : m.2.2 = w ++ [k] := by simpa using hw
        have hk : k ∈ U := I.dom k fun z => (I.new k z).1 (by show k ∈ m.2.2; rw [hw]; simp)
        have hwl := I.work_len hm
        have hwl : m.2.2.length ≤ U.length * 2 ^ 10 := hwl
        have honl : ∀ o, (onOf f m.2.1 o).length ≤ 1000000000 := fun o => by
          have := I.on_len hm o
          have : (onOf f m.2.1 o).length ≤ U.length * (2 ^ 10 * 10) := this
          omega
        obtain ⟨m', g1, g2, g3⟩ := hs w k m.1 m.2.1 hk hT (by rw [hw] at hwl; simp at hwl; omega) honl
        have I' := step_inv mono hU (s := toSt f m) hw I
        have e : toSt f (m.1, m.2.1, w ++ [k]) = toSt f m := by unfold toSt; simp only [hw]
        rw [e] at g3
        rw [← g3] at I'
        obtain ⟨out, on, r1, r2⟩ := ih (q - 1) (k :: ps) m' (by rw [List.length_cons]; omega) (by omega) g2 I'
        exact ⟨out, on, by rw [hw, iter_step (by omega) g1]; exact r1, r2⟩
  obtain ⟨out, on, r1, r2⟩ := key (U.length * 2 ^ 10 + 1) K [] (P.mput f [] start true, [], [start]) (by simp) (by unfold K; omega) tidy_nil (by
    have := start_inv asked rule hst
    have e : toSt f (P.mput f [] start true, [], [start]) = ⟨up (fun _ => none) start (some true), fun _ => [], [start]⟩ := by
      unfold toSt
      simp only
      rw [out_put hf, out_nil, on_nil]
    rw [e]; exact this)
  rw [r1, bind_some, either_inl]
  exact congrArg some r2
theorem fall (hf : ∀ x y, f x y = true ↔ x = y) (k : κ) (m : Mt κ) (ht : Tidy m.2.1) : Tidy (P.mdel f (P.dtake f m.2.1 k) k) ∧ toSt f (P.mput f m.1 k false, P.mdel f (P.dtake f m.2.1 k) k, P.app m.2.2 (onOf f m.2.1 k)) = { out := up (toSt f m).out k (some false), on := up (toSt f m).on k [], work := (toSt f m).work ++ (toSt f m).on k } := by
  obtain ⟨h1, h2⟩ := del_take hf k ht
  refine ⟨h1, ?_⟩
  unfold toSt
  simp only
  rw [h2, out_put hf]
  rfl
theorem step_skip {asked : κ → List κ} {rule : κ → (κ → Bool) → Bool} {ρ : Type} {out : List (κ × Bool)} {on : List (κ × Option (List κ))} {w : List κ} {k : κ} (ht : Tidy on) (h : P.mval f out k false = false) :
    Done f (ρ := ρ) (Sv.step asked rule (toSt f (out, on, w ++ [k])) k w) (some (.inl (w, out, on))) := by
  refine ⟨(out, on, w), rfl, ht, ?_⟩
  rw [val_of] at h
  unfold Sv.step
  rw [if_neg (fun z => by have z : outOf f out k = some true := z; rw [z] at h; cases h)]
  rfl
theorem step_fin (hf : ∀ x y, f x y = true ↔ x = y) {asked : κ → List κ} {rule : κ → (κ → Bool) → Bool} {ρ : Type} {out : List (κ × Bool)} {on : List (κ × Option (List κ))} {w : List κ} {k : κ} (hk : P.mval f out k false = true) {bytes : Nat} (hb : bytes ≤ 64)
    (v : Bool) (m' : Mt κ) (hv : v = rule k (ans (toSt f (out, on, w)))) (ht : Tidy m'.2.1) (hm : toSt f m' = asks k (asked k) (toSt f (out, on, w))) (h1 : m'.2.2.length ≤ 1000001000) (h2 : ∀ o, (onOf f m'.2.1 o).length ≤ 1000001000) :
    Done f (ρ := ρ) (Sv.step asked rule (toSt f (out, on, w ++ [k])) k w) (P.cond v (some (.inl (m'.2.2, m'.1, m'.2.1))) (P.bind (P.dget f m'.2.1 k) fun ys => P.cond (P.room (P.add (P.len m'.2.2) (P.len ys)) bytes) (some (.inl (P.app m'.2.2 ys, P.mput f m'.1 k false, P.mdel f (P.dtake f m'.2.1 k) k))) none)) := by
  rw [val_of] at hk
  have hk1 : (toSt f (out, on, w ++ [k])).out k = some true := by
    show outOf f out k = some true
    cases z : outOf f out k with
    | none => rw [z] at hk; cases hk
    | some b => rw [z] at hk; simp at hk; rw [hk]
  have e0 : ({ toSt f (out, on, w ++ [k]) with work := w } : St κ) = toSt f (out, on, w) := rfl
  have e1 : ans (toSt f (out, on, w ++ [k])) = ans (toSt f (out, on, w)) := rfl
  unfold Sv.step
  rw [if_pos hk1]
  simp only
  rw [e0, e1, ← hv, ← hm]
  cases v with
  | true => rw [if_pos rfl]; exact ⟨m', rfl, ht, rfl⟩
  | false =>
    rw [if_neg (by simp), cond_false, dget_some ht.2, bind_some, len_eq, len_eq, room_nat.2 (by have := h2 k; have : (m'.2.2.length + (onOf f m'.2.1 k).length) * bytes ≤ (m'.2.2.length + (onOf f m'.2.1 k).length) * 64 := Nat.mul_le_mul_left _ hb; omega), cond_true]
    obtain ⟨g1, g2⟩ := fall hf k m' ht
    exact ⟨(P.mput f m'.1 k false, P.mdel f (P.dtake f m'.2.1 k) k, P.app m'.2.2 (onOf f m'.2.1 k)), rfl, g1, g2⟩
theorem hold_room {ρ : Type} (bytes : Nat) (hb : bytes ≤ 64) (o : κ) (l : List κ) (h1 : l.length ≤ 1000001000) (X Y : Option ρ) : P.cond (P.room (P.add (P.len l) (P.len [o])) bytes) X Y = X := by
  rw [len_eq, len_eq, room_nat.2 (by have : (l.length + [o].length) * bytes ≤ (l.length + [o].length) * 64 := Nat.mul_le_mul_left _ hb; simp only [List.length_cons, List.length_nil] at *; omega), cond_true]
theorem hold_get {ρ : Type} (bytes : Nat) (hb : bytes ≤ 64) (k o : κ) (on : List (κ × Option (List κ))) (ht : Tidy on) (h2 : (onOf f on o).length ≤ 1000001000) (Y : Option ρ) (Z : List κ → Option ρ) :
    P.bind (P.dget f on o) (fun ys => P.cond (P.room (P.add (P.len ys) (P.len [k])) bytes) (Z ys) Y) = Z (onOf f on o) := by
  rw [dget_some ht.2, bind_some, hold_room bytes hb k _ h2]
end
end Go.PL.Ty
end
section
open Go Go.PG Go.PL Go.PL.Sv
set_option linter.all false
namespace Go.PL.Ty
abbrev Kp := Int × Int
def eqP (x y : Kp) : Bool := P.and (P.ieq x.1 y.1) (P.ieq x.2 y.2)
theorem eqP_iff (x y : Kp) : eqP x y = true ↔ x = y := by
  unfold eqP
  rw [and_iff, ieq_iff, ieq_iff]
  exact ⟨fun h => Prod.ext h.1 h.2, fun h => by rw [h]; exact ⟨rfl, rfl⟩⟩
theorem eqP_fun : (fun (x y : Int × Int) => P.and (P.ieq x.fst y.fst) (P.ieq x.snd y.snd)) = eqP := rfl
def pairs (n : Nat) : List Kp := (List.range n).flatMap fun (i : Nat) => (List.range n).map fun (j : Nat) => (((i : Nat) : Int), ((j : Nat) : Int))
theorem mem_pairs {n : Nat} {p : Kp} : p ∈ pairs n ↔ Inb n p.1 ∧ Inb n p.2 := by
  unfold pairs Inb
  simp only [List.mem_flatMap, List.mem_map, List.mem_range]
  constructor
  · rintro ⟨i, hi, j, hj, rfl⟩
    exact ⟨⟨by simp, by simpa using hi⟩, by simp, by simpa using hj⟩
  · rintro ⟨⟨h1, h2⟩, h3, h4⟩
    exact ⟨p.1.toNat, by omega, p.2.toNat, by omega, Prod.ext (by show ((p.1.toNat : Nat) : Int) = _; omega) (by show ((p.2.toNat : Nat) : Int) = _; omega)⟩
theorem pairs_len (n : Nat) : (pairs n).length = n * n := by
  unfold pairs
  rw [List.length_flatMap]
  have : ∀ m : Nat, ((List.range m).map fun _ => n).sum = m * n := by
    intro m
    induction m with
    | zero => simp
    | succ m ih => rw [List.range_succ, List.map_append, List.sum_append, ih, Nat.add_mul]; simp
  simpa using this n
theorem asked_pairs {t : List Tt} (h : MayT t) : ∀ k ∈ pairs t.length, ∀ o ∈ asked t k, o ∈ pairs t.length := by
  intro k hk o ho
  obtain ⟨⟨a1, a2⟩, b1, b2⟩ := mem_pairs.1 hk
  obtain ⟨⟨c1, c2⟩, c3, c4⟩ := asked_inn h (p := k) (by unfold Inn; omega) (by unfold Inn; omega) o ho
  unfold Inn at c1 c2
  exact mem_pairs.2 ⟨⟨c3 a1, by have := c3 a1; omega⟩, c4 b1, by have := c4 b1; omega⟩
theorem at_small {t : List Tt} (h : SmallT t) (x : Int) : (at_ t x).2.1.length ≤ 10 ∧ (at_ t x).2.2.length ≤ 10 := by
  rcases at_cases t x with ⟨i, _, q⟩ | ⟨i, _, q⟩ | q
  · exact h.1 _ (List.mem_of_getElem? q)
  · exact h.1 _ (List.mem_of_getElem? q)
  · rw [q]; simp
theorem asked_len {t : List Tt} (h : SmallT t) (k : Kp) : (asked t k).length ≤ 10 := by
  unfold asked
  split
  · rw [List.length_map]; exact (at_small h _).2
  · split
    · rw [List.length_map]; exact (at_small h _).2
    · split
      · simp
      · split
        · simp
        · exact Nat.le_trans (List.length_filterMap_le _ _) (at_small h _).1
theorem small_few {t : List Tt} (h : SmallT t) : FewTab t := ⟨by have := h.2; omega, fun x hx => by have := h.1 x hx; omega⟩
theorem inb_k {t : List Tt} {a : Int} (h : Inb t.length a) : P.inb a (P.len t) = true := inb_iff.2 (by rw [len_eq]; exact h)
open Classical in
theorem sub_body (t : List Tt) (hs : SmallT t) (hm : MayD t) (a b : Int) (ha : Inb t.length a) (hb : Inb t.length b) : types_Sub K (t, a, b) = some (decide (Sub t a b)) := by
  have hmt := mayD_mayT hm
  unfold types_Sub
  try dsimp only
  rw [at_may t (small_few hs), bind_some, decide_eq_true hm, not_true, cond_false, at_place, bind_some, decide_eq_true ha, not_true, cond_false, at_place, bind_some, decide_eq_true hb, not_true, cond_false]
  rw [eqP_fun]
  refine solve_goal eqP_iff (asked := asked t) (rule := ruleB t) (rule_mono t) (U := pairs t.length) (start := (a, b)) (asked_pairs hmt) (mem_pairs.2 ⟨ha, hb⟩) (asked_len hs) (by rw [pairs_len]; have := hs.2; have : t.length * t.length ≤ 16 * 16 := Nat.mul_le_mul this this; omega) (fun w k out on hk hT hw hon => ?_) (fun out on => ?_)
  · obtain ⟨k1, k2⟩ := mem_pairs.1 hk
    obtain ⟨l1, l2, l3, l4, l5, l6⟩ := last_key w k ((0 : Int), (0 : Int)) hw
    try dsimp only
    simp only [l1, l2, l3, l4, l5, l6, cond_true, inb_k k1, inb_k k2, get_dT]
    cases hv : P.mval eqP out k false with
    | false =>
      rw [not_false', cond_true]
      exact step_skip hT hv
    | true =>
      rw [not_true, cond_false]
      have sm := at_small hs
      by_cases x5 : (at_ t k.1).1 = 5
      · rw [show P.ieq (at_ t k.1).1 5 = true from ieq_iff.2 x5, cond_true]
        refine all_loop eqP_iff (at_ t k.1).2.2 0 (fun e => some (e, k.2)) (fun z => z) k (out, on, w) 1000000000 hw hon hT (by have := (sm k.1).2; omega) (Done eqP _) (fun ok i m hi hT' h1 h2 => ?_) (fun ok m => ?_) (fun m' g1 g2 g3 g4 => ?_)
        · have hi10 : i ≤ 10 := by have := (sm k.1).2; omega
          try dsimp only
          rw [ilt_len hi, cond_true, inb_len hi, cond_true, get_I, wrap_succ (by omega)]
          generalize ho : ((at_ t k.1).2.2.getD i 0, k.2) = o
          unfold ansM hold1
          cases q : P.mhas eqP m.1 o with
          | false =>
            rw [not_false', cond_true, hold_room 16 (by omega) o _ (by omega), hold_get 16 (by omega) k o _ hT' (by have := h2 o; omega)]
            simp
          | true =>
            rw [not_true, cond_false, hold_get 16 (by omega) k o _ hT' (by have := h2 o; omega)]
            cases P.mval eqP m.1 o false <;> simp [P.cond]
        · try dsimp only
          rw [ilt_end, cond_false]
        · have e : asked t k = (at_ t k.1).2.2.filterMap fun e => some (e, k.2) := by unfold asked; rw [if_pos x5, List.filterMap_eq_map']
          refine step_fin eqP_iff hv (bytes := 16) (by omega) _ m' ?_ g1 (by rw [g2, e]) (by have := (sm k.1).2; omega) (fun o => by have := (sm k.1).2; have := g4 o; omega)
          unfold ruleB
          rw [if_pos x5]
      · rw [show P.ieq (at_ t k.1).1 5 = false from by rw [Bool.eq_false_iff, Ne, ieq_iff]; exact x5, cond_false]
        by_cases y5 : (at_ t k.2).1 = 5
        · rw [show P.ieq (at_ t k.2).1 5 = true from ieq_iff.2 y5, cond_true]
          refine all_loop eqP_iff (at_ t k.2).2.2 0 (fun e => some (k.1, e)) (fun z => !z) k (out, on, w) 1000000000 hw hon hT (by have := (sm k.2).2; omega) (Done eqP _) (fun ok i m hi hT' h1 h2 => ?_) (fun ok m => ?_) (fun m' g1 g2 g3 g4 => ?_)
          · have hi10 : i ≤ 10 := by have := (sm k.2).2; omega
            try dsimp only
            rw [ilt_len hi, cond_true, inb_len hi, cond_true, get_I, wrap_succ (by omega)]
            generalize ho : (k.1, (at_ t k.2).2.2.getD i 0) = o
            unfold ansM hold1
            cases q : P.mhas eqP m.1 o with
            | false =>
              rw [not_false', cond_true, hold_room 16 (by omega) o _ (by omega), hold_get 16 (by omega) k o _ hT' (by have := h2 o; omega), cond_false]
              simp
            | true =>
              rw [not_true, cond_false, hold_get 16 (by omega) k o _ hT' (by have := h2 o; omega)]
              cases P.mval eqP m.1 o false <;> simp [P.cond, P.not]
          · try dsimp only
            rw [ilt_end, cond_false]
          · have e : asked t k = (at_ t k.2).2.2.filterMap fun e => some (k.1, e) := by unfold asked; rw [if_neg x5, if_pos y5, List.filterMap_eq_map']
            refine step_fin eqP_iff hv (bytes := 16) (by omega) _ m' ?_ g1 (by rw [g2, e]) (by have := (sm k.2).2; omega) (fun o => by have := (sm k.2).2; have := g4 o; omega)
            unfold ruleB
            rw [if_neg x5, if_pos y5]
            show (!_) = _
            rw [List.not_all_eq_any_not]
            simp
        · rw [show P.ieq (at_ t k.2).1 5 = false from by rw [Bool.eq_false_iff, Ne, ieq_iff]; exact y5, cond_false]
          by_cases y0 : (at_ t k.2).1 = 0
          · rw [show P.ieq (at_ t k.2).1 0 = true from ieq_iff.2 y0, cond_true]
            have e : asked t k = [] := by unfold asked; rw [if_neg x5, if_neg y5, if_pos y0]
            refine step_fin eqP_iff hv (bytes := 16) (by omega) true (out, on, w) ?_ hT (by rw [e]; rfl) (show w.length ≤ 1000001000 by omega) (fun o => show (onOf eqP on o).length ≤ 1000001000 by have := hon o; omega)
            unfold ruleB
            rw [if_neg x5, if_neg y5, if_pos y0]
          · rw [show P.ieq (at_ t k.2).1 0 = false from by rw [Bool.eq_false_iff, Ne, ieq_iff]; exact y0, cond_false, ieq_eq, cond_ndec]
            by_cases exy : (at_ t k.1).1 = (at_ t k.2).1
            · rw [if_pos exy]
              refine all_loop eqP_iff (at_ t k.2).2.1 dF (fun f => (fieldT (at_ t k.1).2.1 f.1).map fun j => (j, f.2)) (fun z => z) k (out, on, w) 1000000000 hw hon hT (by have := (sm k.2).1; omega) (Done eqP _) (fun ok i m hi hT' h1 h2 => ?_) (fun ok m => ?_) (fun m' g1 g2 g3 g4 => ?_)
              · have hi10 : i ≤ 10 := by have := (sm k.2).1; omega
                try dsimp only
                rw [ilt_len hi, cond_true, inb_len hi, cond_true, get_F, wrap_succ (by omega), at_field _ _ (mayD_rises hm _) (by have := (sm k.1).1; omega), bind_some]
                unfold fieldR
                cases hf : fieldT (at_ t k.1).2.1 ((at_ t k.2).2.1.getD i dF).1 with
                | none => rfl
                | some j =>
                  simp only [Option.map_some, cond_true]
                  generalize ho : (j, ((at_ t k.2).2.1.getD i dF).2) = o
                  unfold ansM hold1
                  cases q : P.mhas eqP m.1 o with
                  | false =>
                    rw [not_false', cond_true, hold_room 16 (by omega) o _ (by omega), hold_get 16 (by omega) k o _ hT' (by have := h2 o; omega)]
                    simp
                  | true =>
                    rw [not_true, cond_false, hold_get 16 (by omega) k o _ hT' (by have := h2 o; omega)]
                    cases P.mval eqP m.1 o false <;> simp [P.cond]
              · try dsimp only
                rw [ilt_end, cond_false]
              · have e : asked t k = (at_ t k.2).2.1.filterMap fun f => (fieldT (at_ t k.1).2.1 f.1).map fun j => (j, f.2) := by unfold asked; rw [if_neg x5, if_neg y5, if_neg y0, if_neg (by simpa using exy)]
                refine step_fin eqP_iff hv (bytes := 16) (by omega) _ m' ?_ g1 (by rw [g2, e]) (by have := (sm k.2).1; omega) (fun o => by have := (sm k.2).1; have := g4 o; omega)
                unfold ruleB
                rw [if_neg x5, if_neg y5, if_neg y0, if_neg (by simpa using exy)]
                refine congrArg (List.all _) (funext fun f => ?_)
                unfold fieldB
                cases fieldT (at_ t k.1).2.1 f.1 <;> rfl
            · rw [if_neg exy]
              have e : asked t k = [] := by unfold asked; rw [if_neg x5, if_neg y5, if_neg y0, if_pos exy]
              refine step_fin eqP_iff hv (bytes := 16) (by omega) false (out, on, w) ?_ hT (by rw [e]; rfl) (show w.length ≤ 1000001000 by omega) (fun o => show (onOf eqP on o).length ≤ 1000001000 by have := hon o; omega)
              unfold ruleB
              rw [if_neg x5, if_neg y5, if_neg y0, if_pos exy]
  · try dsimp only
    rw [show P.ilt (0 : Int) (P.len ([] : List Kp)) = false from by decide, cond_false]
open Classical in
noncomputable def subB (t : List Tt) (a b : Int) : Bool := decide (MayD t ∧ Inb t.length a ∧ Inb t.length b ∧ Sub t a b)
open Classical in
theorem at_sub (t : List Tt) (hs : SmallT t) (a b : Int) : types_Sub K (t, a, b) = some (subB t a b) := by
  by_cases hm : MayD t
  · by_cases ha : Inb t.length a
    · by_cases hb : Inb t.length b
      · rw [sub_body t hs hm a b ha hb]
        unfold subB
        congr 1
        rw [decide_eq_decide]
        exact ⟨fun z => ⟨hm, ha, hb, z⟩, fun z => z.2.2.2⟩
      · unfold types_Sub subB
        try dsimp only
        rw [at_may t (small_few hs), bind_some, decide_eq_true hm, not_true, cond_false, at_place, bind_some, decide_eq_true ha, not_true, cond_false, at_place, bind_some, decide_eq_false hb, not_false', cond_true, decide_eq_false (fun z => hb z.2.2.1)]
    · unfold types_Sub subB
      try dsimp only
      rw [at_may t (small_few hs), bind_some, decide_eq_true hm, not_true, cond_false, at_place, bind_some, decide_eq_false ha, not_false', cond_true, decide_eq_false (fun z => ha z.2.1)]
  · unfold types_Sub subB
    try dsimp only
    rw [at_may t (small_few hs), bind_some, decide_eq_false hm, not_false', cond_true, decide_eq_false (fun z => hm z.1)]
theorem at_equal (t : List Tt) (hs : SmallT t) (a b : Int) : types_Equal K (t, a, b) = some (subB t a b && subB t b a) := by
  unfold types_Equal
  try dsimp only
  rw [at_sub t hs, bind_some]
  cases subB t a b with
  | true => rw [cond_true, at_sub t hs, bind_some, Bool.true_and]
  | false => rw [cond_false, Bool.false_and]
end Go.PL.Ty
end
section
open Go Go.PG Go.PL Go.PL.Sv
set_option linter.all false
namespace Go.PL.Ty
theorem loop_inv {σ ρ τ : Type} (n : Nat) (I : Nat → Bool → σ → Prop) {F : Bool × Int × σ → Option ((Bool × Int × σ) ⊕ ((Bool × σ) ⊕ ρ))} {A : Bool × σ → Option τ} {B : ρ → Option τ} (Q : Option τ → Prop) {g0 : Bool} {s0 : σ} (h0 : I 0 g0 s0) (hn : n ≤ 1000000000)
    (hs : ∀ (i : Nat) g s, i < n → I i g s → ∃ g' s', F (g, (i : Int), s) = some (.inl (g', ((i + 1 : Nat) : Int), s')) ∧ I (i + 1) g' s') (he : ∀ g s, F (g, (n : Int), s) = some (.inr (.inl (g, s))))
    (fin : ∀ g s, I n g s → Q (A (g, s))) : Q (P.bind (P.iter K F (g0, 0, s0)) (P.either A B)) := by
  have key : ∀ (m i q : Nat) g s, i + m = n → m < q → I i g s → ∃ g' s', P.iter q F (g, (i : Int), s) = some (.inl (g', s')) ∧ I n g' s' := by
    intro m
    induction m with
    | zero =>
      intro i q g s hi hq h
      obtain rfl : i = n := by omega
      exact ⟨g, s, iter_done (by omega) (he g s), h⟩
    | succ m ih =>
      intro i q g s hi hq h
      obtain ⟨g', s', h1, h2⟩ := hs i g s (by omega) h
      rw [iter_step (by omega) h1]
      exact ih (i + 1) (q - 1) g' s' (by omega) (by omega) h2
  obtain ⟨g', s', h1, h2⟩ := key n 0 K g0 s0 (by omega) (by unfold K; omega) h0
  rw [show ((0 : Nat) : Int) = 0 from rfl] at h1
  rw [h1, bind_some, either_inl]
  exact fin g' s' h2
theorem if_all {α : Type} (l : List α) (d : α) (q : α → Bool) (p : Nat → Prop) [DecidablePred p] (hp : ∀ i, i < l.length → (p i ↔ q (l.getD i d) = true)) : (if ∀ i, i < l.length → p i then some true else some false) = some (l.all q) := by
  by_cases h : ∀ i, i < l.length → p i
  · rw [if_pos h]
    congr 1
    symm
    rw [List.all_eq_true]
    exact (forall_getD (p := fun x => q x = true) d).1 fun i hi => (hp i hi).1 (h i hi)
  · rw [if_neg h]
    congr 1
    symm
    rw [Bool.eq_false_iff]
    intro z
    rw [List.all_eq_true] at z
    exact h fun i hi => (hp i hi).2 (z _ (getD_mem hi d))
theorem if_any {α : Type} (l : List α) (d : α) (q : α → Bool) (p : Nat → Prop) [DecidablePred p] (hp : ∀ i, i < l.length → (p i ↔ ¬ q (l.getD i d) = true)) : (if ∀ i, i < l.length → p i then some false else some true) = some (l.any q) := by
  by_cases h : ∀ i, i < l.length → p i
  · rw [if_pos h]
    congr 1
    symm
    rw [Bool.eq_false_iff]
    intro z
    rw [List.any_eq_true] at z
    obtain ⟨x, hx, hq⟩ := z
    exact (forall_getD (p := fun x => ¬ q x = true) d).1 (fun i hi => (hp i hi).1 (h i hi)) x hx hq
  · rw [if_neg h]
    congr 1
    symm
    rw [List.any_eq_true]
    apply Classical.byContradiction
    intro z
    exact h fun i hi => (hp i hi).2 fun e => z ⟨_, getD_mem hi d, e⟩
def idx (n : Nat) (p : Kp) : Nat := p.1.toNat * n + p.2.toNat
def grid (inn : List Bool) (n : Nat) (p : Kp) : Bool := inn.getD (idx n p) false
theorem idx_lt {n : Nat} {p : Kp} (h1 : Inb n p.1) (h2 : Inb n p.2) : idx n p < n * n := by
  unfold idx
  have a : p.1.toNat + 1 ≤ n := by have := h1.1; have := h1.2; omega
  have b : p.2.toNat < n := by have := h2.1; have := h2.2; omega
  have : (p.1.toNat + 1) * n ≤ n * n := Nat.mul_le_mul_right n a
  rw [Nat.add_mul, Nat.one_mul] at this
  omega
theorem idx_inj {n : Nat} {p q : Kp} (h1 : Inb n p.1) (h2 : Inb n p.2) (g1 : Inb n q.1) (g2 : Inb n q.2) (e : idx n p = idx n q) : p = q := by
  unfold idx at e
  have b : p.2.toNat < n := by have := h2.1; have := h2.2; omega
  have b' : q.2.toNat < n := by have := g2.1; have := g2.2; omega
  have m1 : p.2.toNat = q.2.toNat := by
    have := congrArg (· % n) e
    simpa [Nat.mul_comm _ n, Nat.mul_add_mod, Nat.mod_eq_of_lt b, Nat.mod_eq_of_lt b'] using this
  have m2 : p.1.toNat * n = q.1.toNat * n := by omega
  have m3 : p.1.toNat = q.1.toNat := Nat.eq_of_mul_eq_mul_right (by omega) m2
  have := h1.1; have := h2.1; have := g1.1; have := g2.1
  exact Prod.ext (by omega) (by omega)
theorem idx_wrap {t : List Tt} {p : Kp} (hn : t.length ≤ 100000) (h1 : Inb t.length p.1) (h2 : Inb t.length p.2) : P.wrap IntKind.i64 (P.add (P.wrap IntKind.i64 (P.mul p.1 (P.len t))) p.2) = ((idx t.length p : Nat) : Int) := by
  have hl := idx_lt h1 h2
  have hb : t.length * t.length ≤ 100000 * 100000 := Nat.mul_le_mul hn hn
  unfold idx at *
  have e1 : P.mul p.1 (P.len t) = ((p.1.toNat * t.length : Nat) : Int) := by
    rw [len_eq]
    show p.1 * _ = _
    rw [Int.natCast_mul, Int.toNat_of_nonneg h1.1]
  rw [e1, wrap_nat (by omega)]
  have e2 : P.add ((p.1.toNat * t.length : Nat) : Int) p.2 = ((p.1.toNat * t.length + p.2.toNat : Nat) : Int) := by
    show _ + _ = _
    rw [Int.natCast_add, Int.toNat_of_nonneg h2.1]
  rw [e2, wrap_nat (by omega)]
theorem at_inb {t : List Tt} (hm : MayT t) {x e : Int} (k : (at_ t x).1 = 5) (he : e ∈ (at_ t x).2.2) : Inb t.length e := by
  have h1 := at_pos (t := t) (x := x) (by rw [k]; decide)
  have h2 := (List.getElem?_eq_some_iff.1 h1).1
  have := hm.elem_lt k he
  exact ⟨this.1, by have := this.2; have := this; omega⟩
theorem ref_rule (t : List Tt) (inn : List Bool) (p : Kp) (hs : SmallT t) (hm : MayD t) (h1 : Inb t.length p.1) (h2 : Inb t.length p.2) (hl : inn.length = t.length * t.length) : ref24_rule K (t, inn, p.1, p.2) = some (ruleB t p (grid inn t.length)) := by
  have hmt := mayD_mayT hm
  have sm := at_small hs
  have hn : t.length ≤ 100000 := by have := hs.2; omega
  have rd : ∀ q : Kp, Inb t.length q.1 → Inb t.length q.2 → P.inb (P.wrap IntKind.i64 (P.add (P.wrap IntKind.i64 (P.mul q.1 (P.len t))) q.2)) (P.len inn) = true ∧ P.get inn (P.wrap IntKind.i64 (P.add (P.wrap IntKind.i64 (P.mul q.1 (P.len t))) q.2)) false = grid inn t.length q := fun q g1 g2 => by
    rw [idx_wrap hn g1 g2, get_nat]
    exact ⟨inb_len (by rw [hl]; exact idx_lt g1 g2), rfl⟩
  unfold ref24_rule
  try dsimp only
  rw [inb_k h1, inb_k h2, cond_true, cond_true]
  simp only [get_dT]
  unfold ruleB
  by_cases x5 : (at_ t p.1).1 = 5
  · rw [show P.ieq (at_ t p.1).1 5 = true from ieq_iff.2 x5, cond_true, if_pos x5]
    rw [loop_all (at_ t p.1).2.2.length (fun i => grid inn t.length ((at_ t p.1).2.2.getD i 0, p.2) = true) (by have := (sm p.1).2; omega) (r := false) ?_ ?_]
    · exact if_all _ 0 _ _ fun i hi => Iff.rfl
    · intro i hi
      have := rd ((at_ t p.1).2.2.getD i 0, p.2) (at_inb hmt x5 (getD_mem hi 0)) h2
      try dsimp only
      rw [ilt_len hi, cond_true, inb_len hi, cond_true, get_I, this.1, cond_true, this.2, wrap_succ (by have := (sm p.1).2; omega)]
      cases grid inn t.length ((at_ t p.1).2.2.getD i 0, p.2) <;> rfl
    · try dsimp only
      rw [ilt_end, cond_false]
  · rw [show P.ieq (at_ t p.1).1 5 = false from by rw [Bool.eq_false_iff, Ne, ieq_iff]; exact x5, cond_false, if_neg x5]
    by_cases y5 : (at_ t p.2).1 = 5
    · rw [show P.ieq (at_ t p.2).1 5 = true from ieq_iff.2 y5, cond_true, if_pos y5]
      rw [loop_all (at_ t p.2).2.2.length (fun i => ¬ grid inn t.length (p.1, (at_ t p.2).2.2.getD i 0) = true) (by have := (sm p.2).2; omega) (r := true) ?_ ?_]
      · exact if_any _ 0 _ _ fun i hi => Iff.rfl
      · intro i hi
        have := rd (p.1, (at_ t p.2).2.2.getD i 0) h1 (at_inb hmt y5 (getD_mem hi 0))
        try dsimp only
        rw [ilt_len hi, cond_true, inb_len hi, cond_true, get_I, this.1, cond_true, this.2, wrap_succ (by have := (sm p.2).2; omega)]
        cases grid inn t.length (p.1, (at_ t p.2).2.2.getD i 0) <;> rfl
      · try dsimp only
        rw [ilt_end, cond_false]
    · rw [show P.ieq (at_ t p.2).1 5 = false from by rw [Bool.eq_false_iff, Ne, ieq_iff]; exact y5, cond_false, if_neg y5]
      by_cases y0 : (at_ t p.2).1 = 0
      · rw [show P.ieq (at_ t p.2).1 0 = true from ieq_iff.2 y0, cond_true, if_pos y0]
      · rw [show P.ieq (at_ t p.2).1 0 = false from by rw [Bool.eq_false_iff, Ne, ieq_iff]; exact y0, cond_false, if_neg y0, ieq_eq, cond_ndec]
        by_cases exy : (at_ t p.1).1 = (at_ t p.2).1
        · rw [if_pos exy, if_neg (by simpa using exy)]
          rw [loop_all (at_ t p.2).2.1.length (fun i => fieldB (at_ t p.1).2.1 (grid inn t.length) ((at_ t p.2).2.1.getD i dF) = true) (by have := (sm p.2).1; omega) (r := false) ?_ ?_]
          · exact if_all _ dF _ _ fun i hi => Iff.rfl
          · intro i hi
            try dsimp only
            rw [ilt_len hi, cond_true, inb_len hi, cond_true, get_F, ref_field _ _ (by have := (sm p.1).1; omega), bind_some, wrap_succ (by have := (sm p.2).1; omega)]
            unfold fieldR
            cases hf : fieldT (at_ t p.1).2.1 ((at_ t p.2).2.1.getD i dF).1 with
            | none =>
              have e : fieldB (at_ t p.1).2.1 (grid inn t.length) ((at_ t p.2).2.1.getD i dF) = false := by unfold fieldB; rw [hf]
              rw [if_neg (by rw [e]; simp)]
              rfl
            | some j =>
              have e : fieldB (at_ t p.1).2.1 (grid inn t.length) ((at_ t p.2).2.1.getD i dF) = grid inn t.length (j, ((at_ t p.2).2.1.getD i dF).2) := by unfold fieldB; rw [hf]
              have b1 : Inb t.length j := by
                have := hmt.fld _ _ (at_pos (t := t) (x := p.1) (by rw [exy]; exact y0)) _ (fieldT_mem hf)
                exact this
              have b2 : Inb t.length ((at_ t p.2).2.1.getD i dF).2 := hmt.fld _ _ (at_pos y0) _ (getD_mem hi dF)
              have := rd (j, ((at_ t p.2).2.1.getD i dF).2) b1 b2
              simp only [not_true, cond_false, cond_true]
              rw [this.1, cond_true, this.2, ← e]
              cases fieldB (at_ t p.1).2.1 (grid inn t.length) ((at_ t p.2).2.1.getD i dF) <;> rfl
          · try dsimp only
            rw [ilt_end, cond_false]
        · rw [if_neg exy, if_pos exy]
def cnt (l : List Bool) : Nat := l.count true
theorem cnt_set : ∀ {l : List Bool} {i : Nat}, l.getD i false = true → cnt (l.set i false) + 1 = cnt l
  | [], i, h => by simp at h
  | b :: l, 0, h => by
    have : b = true := by simpa using h
    subst this
    simp [cnt]
  | b :: l, i + 1, h => by
    have := cnt_set (l := l) (i := i) (by simpa using h)
    unfold cnt at *
    rw [List.set_cons_succ, List.count_cons, List.count_cons, ← this]
    omega
structure Pass (t : List Tt) (inn0 : List Bool) (seen : Kp → Prop) (gone : Bool) (inn : List Bool) : Prop where
  len : inn.length = t.length * t.length
  bad : ∀ p, Inb t.length p.1 → Inb t.length p.2 → grid inn t.length p = false → ¬ Gfp (ruleB t) p
  same : gone = false → inn = inn0
  less : gone = true → cnt inn < cnt inn0
  le : cnt inn ≤ cnt inn0
  ok : gone = false → ∀ p, seen p → grid inn0 t.length p = true → ruleB t p (grid inn0 t.length) = true
theorem pass_step {t : List Tt} (hs : SmallT t) (hm : MayD t) {inn0 inn : List Bool} {seen seen' : Kp → Prop} {gone : Bool} (I : Pass t inn0 seen gone inn) {p : Kp} (h1 : Inb t.length p.1) (h2 : Inb t.length p.2) (hseen : ∀ q, seen' q → seen q ∨ q = p) :
    Pass t inn0 seen' (if grid inn t.length p = true ∧ ruleB t p (grid inn t.length) = false then true else gone) (if grid inn t.length p = true ∧ ruleB t p (grid inn t.length) = false then inn.set (idx t.length p) false else inn) := by
  by_cases c : grid inn t.length p = true ∧ ruleB t p (grid inn t.length) = false
  · rw [if_pos c, if_pos c]
    have hc := cnt_set (l := inn) (i := idx t.length p) c.1
    refine ⟨by rw [List.length_set]; exact I.len, fun q g1 g2 hq => ?_, fun z => by simp at z, fun _ => by have := I.le; omega, by have := I.le; omega, fun z => by simp at z⟩
    by_cases e : q = p
    · subst e
      rintro ⟨T, hT1, hT⟩
      have key := hT q hT1 (fun o => if Inb t.length o.1 ∧ Inb t.length o.2 then grid inn t.length o else true) fun o ho => by
        by_cases b : Inb t.length o.1 ∧ Inb t.length o.2
        · simp only [if_pos b]
          cases z : grid inn t.length o with
          | true => rfl
          | false => exact absurd ⟨T, ho, hT⟩ (I.bad o b.1 b.2 z)
        · simp only [if_neg b]
      have := rule_mono t q _ (grid inn t.length) (fun o ho hg => by
        have b := mem_pairs.1 (asked_pairs (mayD_mayT hm) q (mem_pairs.2 ⟨g1, g2⟩) o ho)
        simpa only [if_pos b] using hg) key
      rw [c.2] at this
      cases this
    · refine I.bad q g1 g2 ?_
      unfold grid at hq ⊢
      rw [List.getD_eq_getElem?_getD, List.getElem?_set_ne (fun z => e (idx_inj g1 g2 h1 h2 z.symm)), ← List.getD_eq_getElem?_getD] at hq
      exact hq
  · rw [if_neg c, if_neg c]
    refine ⟨I.len, I.bad, I.same, I.less, I.le, fun z q hq g => ?_⟩
    rcases hseen q hq with w | rfl
    · exact I.ok z q w g
    · have e := I.same z
      subst e
      cases r : ruleB t q (grid inn t.length) with
      | true => rfl
      | false => exact absurd ⟨g, r⟩ c
theorem grid_full {n : Nat} {p : Kp} (h1 : Inb n p.1) (h2 : Inb n p.2) : grid (List.replicate (n * n) true) n p = true := by
  unfold grid
  have := idx_lt h1 h2
  simp [List.getD_eq_getElem?_getD, this]
open Classical in
theorem ref_body (t : List Tt) (hs : SmallT t) (hm : MayD t) (a b : Int) (ha : Inb t.length a) (hb : Inb t.length b) : ref24_Sub K (t, a, b) = some (decide (Sub t a b)) := by
  have hmt := mayD_mayT hm
  have hn : t.length ≤ 100000 := by have := hs.2; omega
  have hnn : t.length * t.length ≤ 16 * 16 := Nat.mul_le_mul hs.2 hs.2
  have mul_eq : P.wrap IntKind.i64 (P.mul (P.len t) (P.len t)) = ((t.length * t.length : Nat) : Int) := by
    rw [len_eq, show P.mul (t.length : Int) (t.length : Int) = ((t.length * t.length : Nat) : Int) from by rw [Int.natCast_mul]; rfl, wrap_nat (by omega)]
  unfold ref24_Sub
  try dsimp only
  rw [ref_may t (small_few hs), bind_some, decide_eq_true hm, not_true, cond_false]
  rw [show P.ilt a 0 = false from by rw [Bool.eq_false_iff, Ne, ilt_iff]; have := ha.1; omega, cond_false, show P.ilt b 0 = false from by rw [Bool.eq_false_iff, Ne, ilt_iff]; have := hb.1; omega, cond_false, show P.ile (P.len t) a = false from by rw [Bool.eq_false_iff, Ne, ile_iff, len_eq]; have := ha.2; omega, cond_false, show P.ile (P.len t) b = false from by rw [Bool.eq_false_iff, Ne, ile_iff, len_eq]; have := hb.2; omega, cond_false, mul_eq]
  -- the grid is filled
  have fill : ∀ (F : List Bool × Int → Option ((List Bool × Int) ⊕ (List Bool ⊕ Bool))), (∀ j : Nat, j < t.length * t.length → F (List.replicate j true, (j : Int)) = some (.inl (List.replicate (j + 1) true, ((j + 1 : Nat) : Int)))) →
      F (List.replicate (t.length * t.length) true, ((t.length * t.length : Nat) : Int)) = some (.inr (.inl (List.replicate (t.length * t.length) true))) → P.iter K F ([], 0) = some (.inl (List.replicate (t.length * t.length) true)) := fun F h1 h2 => by
    have := iter_run (f := F) (fun j => (List.replicate j true, (j : Int))) _ (t.length * t.length) 0 K (by unfold K; omega) (fun j hj => by simp only [Nat.zero_add]; exact h1 j hj) (by simpa using h2)
    simpa using this
  rw [fill _ (fun j hj => by
    try dsimp only
    rw [show P.ilt (j : Int) ((t.length * t.length : Nat) : Int) = true from ilt_iff.2 (by omega), cond_true, len_eq, len_eq, room_nat.2 (by simp; omega), cond_true, wrap_succ (by omega)]
    rw [show P.app (List.replicate j true) [true] = List.replicate (j + 1) true from by rw [List.replicate_succ']; rfl]) (by
    try dsimp only
    rw [show P.ilt ((t.length * t.length : Nat) : Int) ((t.length * t.length : Nat) : Int) = false from by rw [Bool.eq_false_iff, Ne, ilt_iff]; omega, cond_false]), bind_some, either_inl]
  -- the passes
  have loop : ∀ (F : List Bool → Option (List Bool ⊕ Bool)), (∀ inn0, inn0.length = t.length * t.length → (∀ p, Inb t.length p.1 → Inb t.length p.2 → grid inn0 t.length p = false → ¬ Gfp (ruleB t) p) →
      (∃ inn, F inn0 = some (.inl inn) ∧ cnt inn < cnt inn0 ∧ inn.length = t.length * t.length ∧ ∀ p, Inb t.length p.1 → Inb t.length p.2 → grid inn t.length p = false → ¬ Gfp (ruleB t) p) ∨ F inn0 = some (.inr (decide (Sub t a b)))) →
      ∀ (m q : Nat) (inn0 : List Bool), cnt inn0 ≤ m → m < q → inn0.length = t.length * t.length → (∀ p, Inb t.length p.1 → Inb t.length p.2 → grid inn0 t.length p = false → ¬ Gfp (ruleB t) p) → P.iter q F inn0 = some (decide (Sub t a b)) := by
    intro F hF m
    induction m with
    | zero =>
      intro q inn0 h1 h2 h3 h4
      rcases hF inn0 h3 h4 with ⟨inn, g1, g2, _⟩ | g
      · omega
      · exact iter_done (by omega) g
    | succ m ih =>
      intro q inn0 h1 h2 h3 h4
      rcases hF inn0 h3 h4 with ⟨inn, g1, g2, g3, g4⟩ | g
      · rw [iter_step (by omega) g1]
        exact ih (q - 1) inn (by omega) (by omega) g3 g4
      · exact iter_done (by omega) g
  refine loop _ (fun inn0 hl hbad => ?_) (t.length * t.length) K (List.replicate (t.length * t.length) true) (by unfold cnt; exact Nat.le_trans List.count_le_length (by simp)) (by unfold K; omega) (by simp) (fun p h1 h2 h => by rw [grid_full h1 h2] at h; cases h)
  try dsimp only
  refine loop_inv t.length (fun i => Pass t inn0 fun p => Inb t.length p.2 ∧ 0 ≤ p.1 ∧ p.1 < (i : Int)) (fun (z : Option (List Bool ⊕ Bool)) => (∃ inn, z = some (.inl inn) ∧ cnt inn < cnt inn0 ∧ inn.length = t.length * t.length ∧ ∀ p, Inb t.length p.1 → Inb t.length p.2 → grid inn t.length p = false → ¬ Gfp (ruleB t) p) ∨ z = some (.inr (decide (Sub t a b))))
    (g0 := false) (s0 := inn0) ⟨hl, hbad, fun _ => rfl, fun z => (by cases z), Nat.le_refl _, fun _ p hp => by have := hp.2.1; have := hp.2.2; omega⟩ (by omega) (fun i g s hi I => ?_) (fun g s => ?_) (fun g s I => ?_)
  · try dsimp only
    rw [show P.ilt (i : Int) (P.len t) = true from ilt_len hi, cond_true]
    refine loop_inv t.length (fun j => Pass t inn0 fun p => (Inb t.length p.2 ∧ 0 ≤ p.1 ∧ p.1 < (i : Int)) ∨ (p.1 = (i : Int) ∧ 0 ≤ p.2 ∧ p.2 < (j : Int))) (fun (z : Option ((Bool × Int × List Bool) ⊕ ((Bool × List Bool) ⊕ (List Bool ⊕ Bool)))) => ∃ g' s', z = some (.inl (g', ((i + 1 : Nat) : Int), s')) ∧ Pass t inn0 (fun p => Inb t.length p.2 ∧ 0 ≤ p.1 ∧ p.1 < ((i + 1 : Nat) : Int)) g' s')
      ⟨I.len, I.bad, I.same, I.less, I.le, fun z p hp => I.ok z p (by rcases hp with q | q; exact q; have := q.2.1; have := q.2.2; omega)⟩ (by omega) (fun j g s hj I => ?_) (fun g s => ?_) (fun g s I => ?_)
    · have h1 : Inb t.length ((i : Int), (j : Int)).1 := ⟨by simp, by simpa using hi⟩
      have h2 : Inb t.length ((i : Int), (j : Int)).2 := ⟨by simp, by simpa using hj⟩
      have I' := pass_step (seen' := fun p => (Inb t.length p.2 ∧ 0 ≤ p.1 ∧ p.1 < (i : Int)) ∨ (p.1 = (i : Int) ∧ 0 ≤ p.2 ∧ p.2 < ((j + 1 : Nat) : Int))) hs hm I h1 h2 (fun q hq => by
        rcases hq with w | ⟨w1, w2, w3⟩
        · exact .inl (.inl w)
        · by_cases e : q.2 = (j : Int)
          · exact .inr (Prod.ext w1 e)
          · exact .inl (.inr ⟨w1, w2, by omega⟩))
      have hx := idx_wrap (t := t) hn h1 h2
      have hlt : idx t.length ((i : Int), (j : Int)) < s.length := by rw [I.len]; exact idx_lt h1 h2
      try dsimp only
      try dsimp only at hx
      rw [show P.ilt (j : Int) (P.len t) = true from ilt_len hj, cond_true, hx, inb_len hlt, cond_true, get_nat, ref_rule t s ((i : Int), (j : Int)) hs hm h1 h2 I.len, bind_some, wrap_succ (by omega)]
      refine ⟨_, _, ?_, I'⟩
      show P.cond (grid s t.length ((i : Int), (j : Int))) _ _ = _
      cases e1 : grid s t.length ((i : Int), (j : Int)) with
      | false => simp [P.cond]
      | true =>
        rw [cond_true]
        cases e2 : ruleB t ((i : Int), (j : Int)) (grid s t.length) with
        | true => simp [P.cond, P.not]
        | false => simp [P.cond, P.not, P.set]
    · try dsimp only
      rw [show P.ilt (t.length : Int) (P.len t) = false from ilt_end t, cond_false]
    · try dsimp only
      rw [wrap_succ (by omega)]
      refine ⟨g, s, rfl, I.len, I.bad, I.same, I.less, I.le, fun z p hp => I.ok z p ?_⟩
      by_cases e : p.1 = (i : Int)
      · exact .inr ⟨e, hp.1⟩
      · exact .inl ⟨hp.1, hp.2.1, by have := hp.2.2; omega⟩
  · try dsimp only
    rw [show P.ilt (t.length : Int) (P.len t) = false from ilt_end t, cond_false]
  · try dsimp only
    cases g with
    | true => exact .inl ⟨s, rfl, I.less rfl, I.len, I.bad⟩
    | false =>
      right
      have e := I.same rfl
      subst e
      have hx := idx_wrap (t := t) (p := (a, b)) hn ha hb
      try dsimp only at hx
      rw [not_false', cond_true, hx, inb_len (by rw [I.len]; exact idx_lt (p := (a, b)) ha hb), cond_true, get_nat]
      refine congrArg (fun z => some (Sum.inr z)) ?_
      show grid s t.length (a, b) = _
      cases z : grid s t.length (a, b) with
      | false => exact (decide_eq_false (I.bad (a, b) ha hb z)).symm
      | true =>
        symm
        apply decide_eq_true
        refine ⟨fun p => Inb t.length p.1 ∧ Inb t.length p.2 ∧ grid s t.length p = true, ⟨ha, hb, z⟩, fun p ⟨p1, p2, p3⟩ f hf => ?_⟩
        refine rule_mono t p (grid s t.length) f (fun o ho hg => ?_) (I.ok rfl p ⟨p2, p1⟩ p3)
        have b := mem_pairs.1 (asked_pairs hmt p (mem_pairs.2 ⟨p1, p2⟩) o ho)
        exact hf o ⟨b.1, b.2, hg⟩
open Classical in
theorem ref_sub (t : List Tt) (hs : SmallT t) (a b : Int) : ref24_Sub K (t, a, b) = some (subB t a b) := by
  by_cases hm : MayD t
  · by_cases h : Inb t.length a ∧ Inb t.length b
    · rw [ref_body t hs hm a b h.1 h.2]
      unfold subB
      congr 1
      rw [decide_eq_decide]
      exact ⟨fun z => ⟨hm, h.1, h.2, z⟩, fun z => z.2.2.2⟩
    · unfold ref24_Sub subB
      try dsimp only
      rw [ref_may t (small_few hs), bind_some, decide_eq_true hm, not_true, cond_false, decide_eq_false (fun z => h ⟨z.2.1, z.2.2.1⟩), ilt_dec, ilt_dec, ile_dec, ile_dec, cond_dec, cond_dec, cond_dec, cond_dec, len_eq]
      by_cases c1 : a < 0
      · rw [if_pos c1]
      · by_cases c2 : b < 0
        · rw [if_neg c1, if_pos c2]
        · by_cases c3 : (t.length : Int) ≤ a
          · rw [if_neg c1, if_neg c2, if_pos c3]
          · by_cases c4 : (t.length : Int) ≤ b
            · rw [if_neg c1, if_neg c2, if_neg c3, if_pos c4]
            · exact absurd ⟨⟨by omega, by omega⟩, by omega, by omega⟩ h
  · unfold ref24_Sub subB
    try dsimp only
    rw [ref_may t (small_few hs), bind_some, decide_eq_false hm, not_false', cond_true, decide_eq_false (fun z => hm z.1)]
theorem ref_equal (t : List Tt) (hs : SmallT t) (a b : Int) : ref24_Equal K (t, a, b) = some (subB t a b && subB t b a) := by
  unfold ref24_Equal
  try dsimp only
  rw [ref_sub t hs, bind_some]
  cases subB t a b with
  | true => rw [cond_true, ref_sub t hs, bind_some, Bool.true_and]
  | false => rw [cond_false, Bool.false_and]
end Go.PL.Ty
end
section
open Go Go.PG Go.PL Go.PL.Sv
set_option linter.all false
namespace Go.PL.Ty
def rightB (n : Nat) (v : Vl) : Bool :=
  if v.1 = 0 then decide (v.2 = 0) else if v.1 = 1 then decide (v.2 = 0 ∨ v.2 = 1) else if v.1 = 2 then true else if v.1 = 3 then decide (0 ≤ v.2) else if v.1 = 4 then decide (0 ≤ v.2 ∧ v.2 < (n : Int)) else false
theorem right_text (n : Nat) (a b : Int) (m : Int) (hm : m = (n : Int)) : P.cond (P.ieq a ((0 : Int))) (some (P.ieq b ((0 : Int)))) (P.cond (P.ieq a ((1 : Int))) (P.cond (P.ieq b ((0 : Int))) (some true) (some (P.ieq b ((1 : Int))))) (P.cond (P.ieq a ((2 : Int))) (some true) (P.cond (P.ieq a ((3 : Int))) (some (P.ile ((0 : Int)) b)) (P.cond (P.ieq a ((4 : Int))) (P.cond (P.ile ((0 : Int)) b) (some (P.ilt b m)) (some false)) (some false))))) = some (rightB n (a, b)) := by
  subst hm
  simp only [ieq_eq, ile_dec, ilt_dec, cond_dec]
  unfold rightB
  simp only
  by_cases h0 : a = 0
  · rw [if_pos h0, if_pos h0]
  · rw [if_neg h0, if_neg h0]
    by_cases h1 : a = 1
    · rw [if_pos h1, if_pos h1]
      by_cases b0 : b = 0
      · simp [b0]
      · simp [b0]
    · rw [if_neg h1, if_neg h1]
      by_cases h2 : a = 2
      · rw [if_pos h2, if_pos h2]
      · rw [if_neg h2, if_neg h2]
        by_cases h3 : a = 3
        · rw [if_pos h3, if_pos h3]
        · rw [if_neg h3, if_neg h3]
          by_cases h4 : a = 4
          · rw [if_pos h4, if_pos h4]
            by_cases b0 : 0 ≤ b
            · simp [b0]
            · simp [b0]
          · rw [if_neg h4, if_neg h4]
theorem at_right (k : Nat) (s : List Ob) (v : Vl) : store_Right k (s, v) = some (rightB s.length v) := by
  unfold store_Right
  exact right_text s.length v.1 v.2 _ (len_eq s)
theorem ref_right (k : Nat) (s : List Ob) (v : Vl) : ref19_Right k (s, v) = some (rightB s.length v) := by
  unfold ref19_Right
  exact right_text s.length v.1 v.2 _ (len_eq s)
def PropOk (n : Nat) (l : List Pv) (k : Nat) : Prop := rightB n (l.getD k dP).2 = true ∧ (0 < k → ltS (l.getD (k - 1) dP).1 (l.getD k dP).1)
def ProtoOk (i : Nat) (p : Vl) : Prop := (p.1 = 0 ∧ p.2 = 0) ∨ (p.1 = 4 ∧ 0 ≤ p.2 ∧ p.2 < (i : Int))
def ObOk (s : List Ob) (i : Nat) : Prop := (∀ k, k < (s.getD i dO).1.length → PropOk s.length (s.getD i dO).1 k) ∧ ProtoOk i (s.getD i dO).2
def MaySt (s : List Ob) : Prop := ∀ i, i < s.length → ObOk s i
open Classical in
noncomputable instance (n : Nat) (l : List Pv) (k : Nat) : Decidable (PropOk n l k) := propDecidable _
open Classical in
noncomputable instance (i : Nat) (p : Vl) : Decidable (ProtoOk i p) := propDecidable _
open Classical in
noncomputable instance (s : List Ob) (i : Nat) : Decidable (ObOk s i) := propDecidable _
open Classical in
noncomputable instance (s : List Ob) : Decidable (MaySt s) := propDecidable _
def FewSt (s : List Ob) : Prop := s.length ≤ 100000 ∧ ∀ o ∈ s, o.1.length ≤ 100000
theorem few_ob {s : List Ob} (h : FewSt s) {i : Nat} (hi : i < s.length) : (s.getD i dO).1.length ≤ 100000 := h.2 _ (getD_mem hi dO)
theorem proto_text (i : Nat) (p : Vl) {α : Type} (X Y : α) : (P.cond (P.not (P.and (P.ieq p.1 ((0 : Int))) (P.ieq p.2 ((0 : Int))))) (P.cond (P.not (P.ieq p.1 ((4 : Int)))) X (P.cond (P.ilt p.2 ((0 : Int))) X (P.cond (P.ile (i : Int) p.2) X Y))) Y) = if ProtoOk i p then Y else X := by
  have e : P.and (P.ieq p.1 ((0 : Int))) (P.ieq p.2 ((0 : Int))) = decide (p.1 = 0 ∧ p.2 = 0) := by
    rw [Bool.eq_iff_iff, and_iff, ieq_iff, ieq_iff, decide_eq_true_eq]
  rw [e, cond_ndec, ieq_eq, cond_ndec, ilt_dec, cond_dec, ile_dec, cond_dec]
  by_cases a : p.1 = 0 ∧ p.2 = 0
  · rw [if_pos a, if_pos (.inl a)]
  · rw [if_neg a]
    by_cases b : p.1 = 4
    · rw [if_pos b]
      by_cases c : p.2 < 0
      · rw [if_pos c, if_neg (fun z => by rcases z with z | z; exact a z; have := z.2.1; omega)]
      · by_cases d : (i : Int) ≤ p.2
        · rw [if_neg c, if_pos d, if_neg (fun z => by rcases z with z | z; exact a z; have := z.2.2; omega)]
        · rw [if_neg c, if_neg d, if_pos (.inr ⟨b, by omega, by omega⟩)]
    · rw [if_neg b, if_neg (fun z => by rcases z with z | z; exact a z; exact b z.1)]
theorem may_fin (s : List Ob) (i : Nat) {α β : Type} (Y X : β) (f : β → α) : (if ∀ k, k < (s.getD i dO).1.length → PropOk s.length (s.getD i dO).1 k then some (f (if ProtoOk i (s.getD i dO).2 then Y else X)) else some (f X)) = some (f (if ObOk s i then Y else X)) := by
  by_cases a : ∀ k, k < (s.getD i dO).1.length → PropOk s.length (s.getD i dO).1 k
  · rw [if_pos a]
    by_cases b : ProtoOk i (s.getD i dO).2
    · rw [if_pos b, if_pos ⟨a, b⟩]
    · rw [if_neg b, if_neg (fun z => b z.2)]
  · rw [if_neg a, if_neg (fun z => a z.1)]
theorem at_mayst (s : List Ob) (h : FewSt s) : store_May K s = some (decide (MaySt s)) := by
  unfold store_May
  try dsimp only
  rw [loop_all s.length (fun i => ObOk s i) (by have := h.1; omega) (r := false) ?_ ?_]
  · by_cases q : ∀ i, i < s.length → ObOk s i
    · rw [if_pos q, decide_eq_true (show MaySt s from q)]
    · rw [if_neg q, decide_eq_false (show ¬ MaySt s from q)]
  · intro i hi
    have hl := few_ob h hi
    try dsimp only
    rw [ilt_len hi, cond_true, inb_len hi, cond_true, get_O]
    generalize hx : s.getD i dO = x at *
    rw [loop_all x.1.length (fun j => PropOk s.length x.1 j) (by omega) (r := .inr (.inr false)) ?_ ?_]
    · rw [wrap_succ (by have := h.1; omega), proto_text i x.2]
      have := may_fin s i (Sum.inl ((i + 1 : Nat) : Int)) (Sum.inr (Sum.inr false) : Int ⊕ (Unit ⊕ Bool)) (fun z => z)
      rw [hx] at this
      rw [← this]
      by_cases a : ∀ k, k < x.1.length → PropOk s.length x.1 k
      · rw [if_pos a, if_pos a]; exact apply_ite some _ _ _ |>.symm
      · rw [if_neg a, if_neg a]
    · intro j hj
      try dsimp only
      rw [ilt_len hj, cond_true, inb_len hj, cond_true, get_P, at_right, bind_some, wrap_succ (by omega)]
      by_cases r : rightB s.length (x.1.getD j dP).2 = true
      case neg =>
        have r' : rightB s.length (x.1.getD j dP).2 = false := by simpa using r
        rw [r', not_false', cond_true, if_neg (fun z => r z.1)]
      case pos =>
        rw [r, not_true, cond_false]
        by_cases c : j = 0
        · subst c
          rw [show P.ilt ((0 : Int)) ((0 : Nat) : Int) = false from by decide, cond_false, if_pos ⟨r, fun z => by omega⟩]
        · rw [show P.ilt ((0 : Int)) (j : Int) = true from ilt_iff.2 (by omega), cond_true, wrap_pred' (by omega) (by omega), inb_len (show j - 1 < x.1.length by omega), cond_true, get_P, slt_dec, cond_ndec]
          by_cases e : ltS (x.1.getD (j - 1) dP).1 (x.1.getD j dP).1
          · rw [if_pos e, if_pos ⟨r, fun _ => e⟩]
          · rw [if_neg e, if_neg (fun z => e (z.2 (by omega)))]
    · try dsimp only
      rw [ilt_end, cond_false]
  · try dsimp only
    rw [ilt_end, cond_false]
theorem ref_mayst (s : List Ob) (h : FewSt s) : ref19_May K s = some (decide (MaySt s)) := by
  unfold ref19_May
  try dsimp only
  rw [loop_all s.length (fun i => ObOk s i) (by have := h.1; omega) (r := false) ?_ ?_]
  · by_cases q : ∀ i, i < s.length → ObOk s i
    · rw [if_pos q, decide_eq_true (show MaySt s from q)]
    · rw [if_neg q, decide_eq_false (show ¬ MaySt s from q)]
  · intro i hi
    have hl := few_ob h hi
    try dsimp only
    rw [ilt_len hi, cond_true, inb_len hi, cond_true, get_O]
    generalize hx : s.getD i dO = x at *
    rw [loop_all x.1.length (fun j => PropOk s.length x.1 j) (by omega) (r := .inr (.inr false)) ?_ ?_]
    · rw [wrap_succ (by have := h.1; omega), proto_text i x.2]
      have := may_fin s i (Sum.inl ((i + 1 : Nat) : Int)) (Sum.inr (Sum.inr false) : Int ⊕ (Unit ⊕ Bool)) (fun z => z)
      rw [hx] at this
      rw [← this]
      by_cases a : ∀ k, k < x.1.length → PropOk s.length x.1 k
      · rw [if_pos a, if_pos a]; exact apply_ite some _ _ _ |>.symm
      · rw [if_neg a, if_neg a]
    · intro j hj
      try dsimp only
      rw [ilt_len hj, cond_true, inb_len hj, cond_true, get_P, ref_right, bind_some, wrap_succ (by omega)]
      by_cases r : rightB s.length (x.1.getD j dP).2 = true
      case neg =>
        have r' : rightB s.length (x.1.getD j dP).2 = false := by simpa using r
        rw [r', not_false', cond_true, if_neg (fun z => r z.1)]
      case pos =>
        rw [r, not_true, cond_false]
        by_cases c : j = 0
        · subst c
          rw [show P.ilt ((0 : Int)) ((0 : Nat) : Int) = false from by decide, cond_false, if_pos ⟨r, fun z => by omega⟩]
        · rw [show P.ilt ((0 : Int)) (j : Int) = true from ilt_iff.2 (by omega), cond_true, wrap_pred' (by omega) (by omega), inb_len (show j - 1 < x.1.length by omega), cond_true, get_P, cond_true, slt_dec, cond_ndec]
          by_cases e : ltS (x.1.getD (j - 1) dP).1 (x.1.getD j dP).1
          · rw [if_pos e, if_pos ⟨r, fun _ => e⟩]
          · rw [if_neg e, if_neg (fun z => e (z.2 (by omega)))]
    · try dsimp only
      rw [ilt_end, cond_false]
  · try dsimp only
    rw [ilt_end, cond_false]
abbrev RisesV (l : List Pv) : Prop := l.Pairwise fun a b => ltS a.1 b.1
theorem mayst_rises {s : List Ob} (h : MaySt s) {i : Nat} (hi : i < s.length) : RisesV (s.getD i dO).1 :=
  (pair_steps (R := fun a b : Pv => ltS a.1 b.1) (fun a b => ltS_trans a b) _ dP).1 fun k hk h0 => ((h i hi).1 k hk).2 h0
def lookP (l : List Pv) (n : ByteArray) : Option Vl := (l.find? fun a => decide (a.1 = n)).map Prod.snd
theorem at_find (o : Ob) (n : ByteArray) (h : RisesV o.1) (hl : o.1.length ≤ 1000000) : ∃ (p : Nat) (b : Bool), store_find K (o, n) = some ((p : Int), b) ∧ (b = true → p < o.1.length ∧ lookP o.1 n = some (o.1.getD p dP).2) ∧ (b = false → lookP o.1 n = none) := by
  unfold store_find
  try dsimp only
  rw [len_eq]
  refine bs_goalQ Prod.fst dP o.1 n h hl (fun z => ∃ (p : Nat) (b : Bool), z = some ((p : Int), b) ∧ (b = true → p < o.1.length ∧ lookP o.1 n = some (o.1.getD p dP).2) ∧ (b = false → lookP o.1 n = none)) (fun i j hij hj => ?_) (fun i => ?_) (fun p hp lo hi => ?_)
  · try dsimp only
    rw [show P.ilt (i : Int) (j : Int) = true from ilt_iff.2 (by omega), cond_true, show P.ile ((0 : Int)) ((1 : Int)) = true from by decide, cond_true, half (by omega), show P.inb (((i + j) / 2 : Nat) : Int) (o.1.length : Int) = true from inb_iff.2 (by omega), cond_true, get_P]
    unfold strings_Compare
    rw [bind_some, wrap_succ (by omega)]
    by_cases q : ltS (o.1.getD ((i + j) / 2) dP).1 n
    · rw [show P.ilt (Lib.compareBytes (o.1.getD ((i + j) / 2) dP).1.data.toList n.data.toList) ((0 : Int)) = true from ilt_iff.2 (cmpS_lt.2 q), cond_true, if_pos q]
    · rw [show P.ilt (Lib.compareBytes (o.1.getD ((i + j) / 2) dP).1.data.toList n.data.toList) ((0 : Int)) = false from by rw [Bool.eq_false_iff]; exact fun z => q (cmpS_lt.1 (ilt_iff.1 z)), cond_false, if_neg q]
  · try dsimp only
    rw [show P.ilt (i : Int) (i : Int) = false from by rw [Bool.eq_false_iff, Ne, ilt_iff]; omega, cond_false]
  · rw [either_inl]
    have hf : lookP o.1 n = if p < o.1.length ∧ (o.1.getD p dP).1 = n then some (o.1.getD p dP).2 else none := by
      unfold lookP
      rw [bs_found Prod.fst dP o.1 n h hp lo hi]
      split <;> rfl
    by_cases q : p < o.1.length
    · rw [show P.ilt (p : Int) (o.1.length : Int) = true from ilt_iff.2 (by omega), cond_true, show P.inb (p : Int) (o.1.length : Int) = true from inb_iff.2 (by omega), cond_true, get_P]
      unfold strings_Compare
      rw [bind_some]
      refine ⟨p, _, rfl, fun e => ?_, fun e => ?_⟩
      · have e := cmpS_eq.1 (ieq_iff.1 e)
        exact ⟨q, by rw [hf, if_pos ⟨q, e⟩]⟩
      · rw [hf, if_neg (fun z => by rw [show P.ieq (Lib.compareBytes (o.1.getD p dP).1.data.toList n.data.toList) 0 = true from ieq_iff.2 (cmpS_eq.2 z.2)] at e; cases e)]
    · rw [show P.ilt (p : Int) (o.1.length : Int) = false from by rw [Bool.eq_false_iff, Ne, ilt_iff]; omega, cond_false]
      exact ⟨p, false, rfl, fun e => (by cases e), fun _ => by rw [hf, if_neg (fun z => q z.1)]⟩
def lookR (s : List Ob) : Nat → Vl → ByteArray → Option Vl
  | 0, _, _ => none
  | m + 1, v, n => if v.1 = 4 ∧ 0 ≤ v.2 ∧ v.2 < (s.length : Int) then match lookP (s.getD v.2.toNat dO).1 n with
    | some w => some w
    | none => lookR s m (s.getD v.2.toNat dO).2 n
    else none
def lookS (s : List Ob) (v : Vl) (n : ByteArray) : Option Vl := lookR s (s.length + 1) v n
def lookO (o : Option Vl) : Vl × Bool := match o with
  | some w => (w, true)
  | none => ((0, 0), false)
theorem at_look (s : List Ob) (h : FewSt s) (hm : MaySt s) (v : Vl) (n : ByteArray) : store_Look K (s, v, n) = some (lookO (lookS s v n)) := by
  unfold store_Look
  try dsimp only
  have key : ∀ (F : Vl → Option (Vl ⊕ (Unit ⊕ (Vl × Bool)))), (∀ v : Vl, ¬ (v.1 = 4 ∧ 0 ≤ v.2 ∧ v.2 < (s.length : Int)) → F v = some (.inr (.inl ()))) →
      (∀ v : Vl, (v.1 = 4 ∧ 0 ≤ v.2 ∧ v.2 < (s.length : Int)) → F v = some (match lookP (s.getD v.2.toNat dO).1 n with
        | some w => .inr (.inr (w, true))
        | none => .inl (s.getD v.2.toNat dO).2)) →
      ∀ (m q : Nat) (v : Vl), ((v.1 = 4 ∧ 0 ≤ v.2 ∧ v.2 < (s.length : Int)) → v.2.toNat < m) → m < q → P.iter q F v = some (match lookR s m v n with
        | some w => .inr (w, true)
        | none => .inl ()) := by
    intro F h1 h2 m
    induction m with
    | zero =>
      intro q v hv hq
      have : ¬ (v.1 = 4 ∧ 0 ≤ v.2 ∧ v.2 < (s.length : Int)) := fun z => by have := hv z; omega
      exact iter_done (by omega) (h1 v this)
    | succ m ih =>
      intro q v hv hq
      by_cases c : v.1 = 4 ∧ 0 ≤ v.2 ∧ v.2 < (s.length : Int)
      · have f := h2 v c
        simp only [lookR, if_pos c]
        cases e : lookP (s.getD v.2.toNat dO).1 n with
        | some w => rw [e] at f; exact iter_done (by omega) f
        | none =>
          rw [e] at f
          rw [iter_step (by omega) f]
          refine ih (q - 1) _ (fun z => ?_) (by omega)
          have hi : v.2.toNat < s.length := by omega
          rcases (hm v.2.toNat hi).2 with y | y
          · rw [y.1] at z; exact absurd z.1 (by decide)
          · have := hv c
            have := y.2.2
            have := z.2.1
            omega
      · simp only [lookR, if_neg c]
        exact iter_done (by omega) (h1 v c)
  rw [key _ (fun v c => ?_) (fun v c => ?_) (s.length + 1) K v (fun z => by omega) (by unfold K; have := h.1; omega)]
  · rw [bind_some]
    unfold lookO lookS
    cases lookR s (s.length + 1) v n with
    | none => rfl
    | some w => rfl
  · try dsimp only
    rw [ieq_eq, cond_dec, at_right, bind_some]
    by_cases e : v.1 = 4
    · rw [if_pos e]
      have : rightB s.length v = false := by
        unfold rightB
        rw [if_neg (by omega), if_neg (by omega), if_neg (by omega), if_neg (by omega), if_pos e]
        exact decide_eq_false (fun z => c ⟨e, z⟩)
      rw [this, cond_false]
    · rw [if_neg e]
  · try dsimp only
    have hi : v.2.toNat < s.length := by omega
    have hv : v.2 = ((v.2.toNat : Nat) : Int) := by omega
    have hr : rightB s.length v = true := by
      unfold rightB
      rw [if_neg (by omega), if_neg (by omega), if_neg (by omega), if_neg (by omega), if_pos c.1]
      exact decide_eq_true c.2
    obtain ⟨p, b, h1, h2, h3⟩ := at_find (s.getD v.2.toNat dO) n (mayst_rises hm hi) (by have := few_ob h hi; omega)
    rw [ieq_eq, cond_dec, if_pos c.1, at_right, bind_some, hr, cond_true]
    generalize hw : v.2.toNat = i at *
    rw [hv, inb_len hi, cond_true, get_O, h1, bind_some]
    cases b with
    | true =>
      obtain ⟨g1, g2⟩ := h2 rfl
      rw [cond_true, inb_len g1, cond_true, get_P, g2]
    | false =>
      rw [cond_false, h3 rfl]
end Go.PL.Ty
end
section
open Go Go.PG Go.PL Go.PL.Sv
set_option linter.all false
namespace Go.PL.Ty
abbrev Ki := Vl × Int
def eqI (x y : Ki) : Bool := P.and (P.and (P.ieq x.1.1 y.1.1) (P.ieq x.1.2 y.1.2)) (P.ieq x.2 y.2)
theorem eqI_iff (x y : Ki) : eqI x y = true ↔ x = y := by
  unfold eqI
  rw [and_iff, and_iff, ieq_iff, ieq_iff, ieq_iff]
  exact ⟨fun h => Prod.ext (Prod.ext h.1.1 h.1.2) h.2, fun h => by rw [h]; exact ⟨⟨rfl, rfl⟩, rfl⟩⟩
theorem eqI_fun : (fun (x y : (Int × Int) × Int) => P.and (P.and (P.ieq x.fst.fst y.fst.fst) (P.ieq x.fst.snd y.fst.snd)) (P.ieq x.snd y.snd)) = eqI := rfl
theorem kinds_eq (z : Int) : P.mval (fun (x y : Int) => P.ieq x y) (P.mput (fun (x y : Int) => P.ieq x y) (P.mput (fun (x y : Int) => P.ieq x y) (P.mput (fun (x y : Int) => P.ieq x y) (P.mput (fun (x y : Int) => P.ieq x y) [] ((1 : Int)) ((0 : Int))) ((2 : Int)) ((1 : Int))) ((3 : Int)) ((2 : Int))) ((4 : Int)) ((4 : Int))) z ((0 : Int)) = kindOf z := by
  have e : P.mput (fun (x y : Int) => P.ieq x y) (P.mput (fun (x y : Int) => P.ieq x y) (P.mput (fun (x y : Int) => P.ieq x y) (P.mput (fun (x y : Int) => P.ieq x y) [] ((1 : Int)) ((0 : Int))) ((2 : Int)) ((1 : Int))) ((3 : Int)) ((2 : Int))) ((4 : Int)) ((4 : Int)) = [(1, 0), (2, 1), (3, 2), (4, 4)] := by rfl
  rw [e]
  unfold kindOf
  simp only [P.mval]
  by_cases h1 : z = 1
  · subst h1; rfl
  · rw [show P.ieq z 1 = false from by rw [Bool.eq_false_iff, Ne, ieq_iff]; exact h1, if_neg h1]
    by_cases h2 : z = 2
    · subst h2; rfl
    · rw [show P.ieq z 2 = false from by rw [Bool.eq_false_iff, Ne, ieq_iff]; exact h2, if_neg h2]
      by_cases h3 : z = 3
      · subst h3; rfl
      · rw [show P.ieq z 3 = false from by rw [Bool.eq_false_iff, Ne, ieq_iff]; exact h3, if_neg h3]
        by_cases h4 : z = 4
        · subst h4; rfl
        · rw [show P.ieq z 4 = false from by rw [Bool.eq_false_iff, Ne, ieq_iff]; exact h4, if_neg h4]
def vals (s : List Ob) (v : Vl) : List Vl := v :: s.flatMap fun o => o.1.map Prod.snd
def keysI (n : Nat) (s : List Ob) (v : Vl) : List Ki := (vals s v).flatMap fun w => (List.range n).map fun (j : Nat) => (w, ((j : Nat) : Int))
theorem mem_keysI {n : Nat} {s : List Ob} {v : Vl} {p : Ki} : p ∈ keysI n s v ↔ p.1 ∈ vals s v ∧ Inb n p.2 := by
  unfold keysI Inb
  simp only [List.mem_flatMap, List.mem_map, List.mem_range]
  constructor
  · rintro ⟨w, hw, j, hj, rfl⟩
    exact ⟨hw, by simp, by simpa using hj⟩
  · rintro ⟨h1, h2, h3⟩
    exact ⟨p.1, h1, p.2.toNat, by omega, Prod.ext rfl (by show ((p.2.toNat : Nat) : Int) = _; omega)⟩
def SmallS (s : List Ob) : Prop := (∀ o ∈ s, o.1.length ≤ 10) ∧ s.length ≤ 16
instance (s : List Ob) : Decidable (SmallS s) := by unfold SmallS; exact inferInstance
theorem flat_len {α β : Type} (f : α → List β) (c : Nat) : ∀ l : List α, (∀ x ∈ l, (f x).length ≤ c) → (l.flatMap f).length ≤ l.length * c
  | [], _ => by simp
  | x :: l, h => by
    have h1 := h x (by simp)
    have h2 := flat_len f c l fun y hy => h y (by simp [hy])
    rw [List.flatMap_cons, List.length_append, List.length_cons, Nat.add_mul]
    omega
theorem keysI_len {n : Nat} {s : List Ob} {v : Vl} (hs : SmallS s) (hn : n ≤ 16) : (keysI n s v).length ≤ 10000 := by
  have h1 : (vals s v).length ≤ 161 := by
    unfold vals
    have := flat_len (fun o : Ob => o.1.map Prod.snd) 10 s fun o ho => by rw [List.length_map]; exact hs.1 o ho
    have := hs.2
    rw [List.length_cons]
    omega
  have h2 := flat_len (fun w : Vl => (List.range n).map fun (j : Nat) => (w, ((j : Nat) : Int))) 16 (vals s v) fun o _ => by rw [List.length_map, List.length_range]; exact hn
  unfold keysI
  have : (vals s v).length * 16 ≤ 161 * 16 := Nat.mul_le_mul_right _ h1
  omega
theorem small_fewS {s : List Ob} (h : SmallS s) : FewSt s := ⟨by have := h.2; omega, fun o ho => by have := h.1 o ho; omega⟩
theorem lookR_mem (s : List Ob) (x : Vl) : ∀ (m : Nat) (v : Vl) (n : ByteArray) (w : Vl), lookR s m v n = some w → w ∈ vals s x := by
  intro m
  induction m with
  | zero => intro v n w h; cases h
  | succ m ih =>
    intro v n w h
    simp only [lookR] at h
    split at h
    · rename_i c
      split at h
      · rename_i u hu
        injection h with h
        subst h
        unfold lookP at hu
        rw [Option.map_eq_some_iff] at hu
        obtain ⟨p, hp, rfl⟩ := hu
        have hi : v.2.toNat < s.length := by omega
        exact List.mem_cons_of_mem _ (List.mem_flatMap.2 ⟨_, getD_mem hi dO, List.mem_map.2 ⟨p, List.mem_of_find?_eq_some hp, rfl⟩⟩)
      · exact ih _ n w h
    · cases h
theorem askedI_keys {t : List Tt} {s : List Ob} {v : Vl} (h : MayT t) : ∀ k ∈ keysI t.length s v, ∀ o ∈ askedI t (lookS s) k, o ∈ keysI t.length s v := by
  intro k hk o ho
  obtain ⟨a1, a2⟩ := mem_keysI.1 hk
  unfold askedI at ho
  split at ho
  · cases ho
  · rename_i k0
    split at ho
    · rename_i k5
      obtain ⟨e, he, rfl⟩ := List.mem_map.1 ho
      exact mem_keysI.2 ⟨a1, at_inb h k5 he⟩
    · split at ho
      · cases ho
      · obtain ⟨f, hf, ho⟩ := List.mem_filterMap.1 ho
        cases q : lookS s k.1 f.1 with
        | none => rw [q] at ho; cases ho
        | some j =>
          rw [q] at ho
          injection ho with ho
          subst ho
          exact mem_keysI.2 ⟨lookR_mem s v _ _ _ _ q, h.fld _ _ (at_pos k0) f hf⟩
theorem askedI_len {t : List Tt} (h : SmallT t) (look : Vl → ByteArray → Option Vl) (k : Ki) : (askedI t look k).length ≤ 10 := by
  unfold askedI
  split
  · simp
  · split
    · rw [List.length_map]; exact (at_small h _).2
    · split
      · simp
      · exact Nat.le_trans (List.length_filterMap_le _ _) (at_small h _).1
open Classical in
theorem in_body (t : List Tt) (s : List Ob) (v : Vl) (a : Int) (hs : SmallT t) (hss : SmallS s) (hm : MayD t) (hst : MaySt s) (hr : rightB s.length v = true) (ha : Inb t.length a) : types_In K (t, s, v, a) = some (decide (In t (lookS s) v a)) := by
  have hmt := mayD_mayT hm
  have hfs := small_fewS hss
  unfold types_In
  try dsimp only
  rw [at_may t (small_few hs), bind_some, decide_eq_true hm, not_true, cond_false, at_mayst s hfs, bind_some, decide_eq_true hst, not_true, cond_false, at_right, bind_some, hr, not_true, cond_false, at_place, bind_some, decide_eq_true ha, not_true, cond_false]
  rw [eqI_fun]
  refine solve_goal eqI_iff (asked := askedI t (lookS s)) (rule := ruleI t (lookS s)) (ruleI_mono t (lookS s)) (U := keysI t.length s v) (start := (v, a)) (askedI_keys hmt) (mem_keysI.2 ⟨by simp [vals], ha⟩) (askedI_len hs (lookS s)) (keysI_len hss hs.2) (fun w k out on hk hT hw hon => ?_) (fun out on => ?_)
  · obtain ⟨_, k2⟩ := mem_keysI.1 hk
    obtain ⟨l1, l2, l3, l4, l5, l6⟩ := last_key w k (((0 : Int), (0 : Int)), (0 : Int)) hw
    try dsimp only
    simp only [l1, l2, l3, l4, l5, l6, cond_true, inb_k k2, get_dT]
    cases hv : P.mval eqI out k false with
    | false =>
      rw [not_false', cond_true]
      exact step_skip hT hv
    | true =>
      rw [not_true, cond_false]
      have sm := at_small hs
      by_cases x0 : (at_ t k.2).1 = 0
      · rw [show P.ieq (at_ t k.2).1 0 = true from ieq_iff.2 x0, cond_true]
        have e : askedI t (lookS s) k = [] := by unfold askedI; rw [if_pos x0]
        refine step_fin eqI_iff hv (bytes := 24) (by omega) true (out, on, w) ?_ hT (by rw [e]; rfl) (show w.length ≤ 1000001000 by omega) (fun o => show (onOf eqI on o).length ≤ 1000001000 by have := hon o; omega)
        unfold ruleI
        rw [if_pos x0]
      · rw [show P.ieq (at_ t k.2).1 0 = false from by rw [Bool.eq_false_iff, Ne, ieq_iff]; exact x0, cond_false]
        by_cases x5 : (at_ t k.2).1 = 5
        · rw [show P.ieq (at_ t k.2).1 5 = true from ieq_iff.2 x5, cond_true]
          refine all_loop eqI_iff (at_ t k.2).2.2 0 (fun e => some (k.1, e)) (fun z => !z) k (out, on, w) 1000000000 hw hon hT (by have := (sm k.2).2; omega) (Done eqI _) (fun ok i m hi hT' h1 h2 => ?_) (fun ok m => ?_) (fun m' g1 g2 g3 g4 => ?_)
          · have hi10 : i ≤ 10 := by have := (sm k.2).2; omega
            try dsimp only
            rw [ilt_len hi, cond_true, inb_len hi, cond_true, get_I, wrap_succ (by omega)]
            generalize ho : (k.1, (at_ t k.2).2.2.getD i 0) = o
            unfold ansM hold1
            cases q : P.mhas eqI m.1 o with
            | false =>
              rw [not_false', cond_true, hold_room 24 (by omega) o _ (by omega), hold_get 24 (by omega) k o _ hT' (by have := h2 o; omega), cond_false]
              simp
            | true =>
              rw [not_true, cond_false, hold_get 24 (by omega) k o _ hT' (by have := h2 o; omega)]
              cases P.mval eqI m.1 o false <;> simp [P.cond, P.not]
          · try dsimp only
            rw [ilt_end, cond_false]
          · have e : askedI t (lookS s) k = (at_ t k.2).2.2.filterMap fun e => some (k.1, e) := by unfold askedI; rw [if_neg x0, if_pos x5, List.filterMap_eq_map']
            refine step_fin eqI_iff hv (bytes := 24) (by omega) _ m' ?_ g1 (by rw [g2, e]) (by have := (sm k.2).2; omega) (fun o => by have := (sm k.2).2; have := g4 o; omega)
            unfold ruleI
            rw [if_neg x0, if_pos x5]
            show (!_) = _
            rw [List.not_all_eq_any_not]
            simp
        · rw [show P.ieq (at_ t k.2).1 5 = false from by rw [Bool.eq_false_iff, Ne, ieq_iff]; exact x5, cond_false, kinds_eq, ieq_eq, cond_ndec]
          by_cases exy : kindOf (at_ t k.2).1 = k.1.1
          · rw [if_pos exy]
            refine all_loop eqI_iff (at_ t k.2).2.1 dF (fun f => (lookS s k.1 f.1).map fun j => (j, f.2)) (fun z => z) k (out, on, w) 1000000000 hw hon hT (by have := (sm k.2).1; omega) (Done eqI _) (fun ok i m hi hT' h1 h2 => ?_) (fun ok m => ?_) (fun m' g1 g2 g3 g4 => ?_)
            · have hi10 : i ≤ 10 := by have := (sm k.2).1; omega
              try dsimp only
              rw [ilt_len hi, cond_true, inb_len hi, cond_true, get_F, wrap_succ (by omega), at_look s hfs hst, bind_some]
              unfold lookO
              cases hf : lookS s k.1 ((at_ t k.2).2.1.getD i dF).1 with
              | none => rfl
              | some j =>
                simp only [Option.map_some, cond_true]
                generalize ho : (j, ((at_ t k.2).2.1.getD i dF).2) = o
                unfold ansM hold1
                cases q : P.mhas eqI m.1 o with
                | false =>
                  rw [not_false', cond_true, hold_room 24 (by omega) o _ (by omega), hold_get 24 (by omega) k o _ hT' (by have := h2 o; omega)]
                  simp
                | true =>
                  rw [not_true, cond_false, hold_get 24 (by omega) k o _ hT' (by have := h2 o; omega)]
                  cases P.mval eqI m.1 o false <;> simp [P.cond]
            · try dsimp only
              rw [ilt_end, cond_false]
            · have e : askedI t (lookS s) k = (at_ t k.2).2.1.filterMap fun f => (lookS s k.1 f.1).map fun j => (j, f.2) := by unfold askedI; rw [if_neg x0, if_neg x5, if_neg (by simpa using exy)]
              refine step_fin eqI_iff hv (bytes := 24) (by omega) _ m' ?_ g1 (by rw [g2, e]) (by have := (sm k.2).1; omega) (fun o => by have := (sm k.2).1; have := g4 o; omega)
              unfold ruleI
              rw [if_neg x0, if_neg x5, if_neg (by simpa using exy)]
              refine congrArg (List.all _) (funext fun f => ?_)
              unfold fieldI
              cases lookS s k.1 f.1 <;> rfl
          · rw [if_neg exy]
            have e : askedI t (lookS s) k = [] := by unfold askedI; rw [if_neg x0, if_neg x5, if_pos exy]
            refine step_fin eqI_iff hv (bytes := 24) (by omega) false (out, on, w) ?_ hT (by rw [e]; rfl) (show w.length ≤ 1000001000 by omega) (fun o => show (onOf eqI on o).length ≤ 1000001000 by have := hon o; omega)
            unfold ruleI
            rw [if_neg x0, if_neg x5, if_pos exy]
  · try dsimp only
    rw [show P.ilt (0 : Int) (P.len ([] : List Ki)) = false from by decide, cond_false]
open Classical in
noncomputable def inB (t : List Tt) (s : List Ob) (v : Vl) (a : Int) : Bool := decide (MayD t ∧ MaySt s ∧ rightB s.length v = true ∧ Inb t.length a ∧ In t (lookS s) v a)
open Classical in
theorem at_in (t : List Tt) (s : List Ob) (v : Vl) (a : Int) (hs : SmallT t) (hss : SmallS s) : types_In K (t, s, v, a) = some (inB t s v a) := by
  have hfs := small_fewS hss
  by_cases hm : MayD t
  · by_cases hst : MaySt s
    · by_cases hr : rightB s.length v = true
      · by_cases ha : Inb t.length a
        · rw [in_body t s v a hs hss hm hst hr ha]
          unfold inB
          congr 1
          rw [decide_eq_decide]
          exact ⟨fun z => ⟨hm, hst, hr, ha, z⟩, fun z => z.2.2.2.2⟩
        · unfold types_In inB
          try dsimp only
          rw [at_may t (small_few hs), bind_some, decide_eq_true hm, not_true, cond_false, at_mayst s hfs, bind_some, decide_eq_true hst, not_true, cond_false, at_right, bind_some, hr, not_true, cond_false, at_place, bind_some, decide_eq_false ha, not_false', cond_true, decide_eq_false (fun z => ha z.2.2.2.1)]
      · unfold types_In inB
        try dsimp only
        rw [at_may t (small_few hs), bind_some, decide_eq_true hm, not_true, cond_false, at_mayst s hfs, bind_some, decide_eq_true hst, not_true, cond_false, at_right, bind_some, show rightB s.length v = false from by simpa using hr, not_false', cond_true, decide_eq_false (fun z => by cases z.2.2.1)]
    · unfold types_In inB
      try dsimp only
      rw [at_may t (small_few hs), bind_some, decide_eq_true hm, not_true, cond_false, at_mayst s hfs, bind_some, decide_eq_false hst, not_false', cond_true, decide_eq_false (fun z => hst z.2.1)]
  · unfold types_In inB
    try dsimp only
    rw [at_may t (small_few hs), bind_some, decide_eq_false hm, not_false', cond_true, decide_eq_false (fun z => hm z.1)]
theorem ref_smallS (s : List Ob) (h : s.length ≤ 9223372036854775807) : law24_small K s = some (decide (SmallS s)) := by
  unfold law24_small
  try dsimp only
  rw [loop_all s.length (fun i => (s.getD i dO).1.length ≤ 10) h (r := false) ?_ ?_]
  · by_cases q : ∀ f, f ∈ s → f.1.length ≤ 10
    · rw [if_pos (fun i hi => q _ (getD_mem hi dO)), ile_dec]
      refine congrArg some (decide_eq_decide.2 ?_)
      rw [len_eq]
      exact ⟨fun z => ⟨q, by omega⟩, fun z => by have := z.2; omega⟩
    · rw [if_neg (fun z => q ((forall_getD (p := fun f : Ob => f.1.length ≤ 10) dO).1 z))]
      congr 1
      exact (decide_eq_false fun z => q z.1).symm
  · intro i hi
    try dsimp only
    rw [ilt_len hi, cond_true, inb_len hi, cond_true, get_O, ilt_dec, cond_dec, wrap_succ (by omega)]
    by_cases q : (s.getD i dO).1.length ≤ 10
    · rw [if_neg (by rw [len_eq]; omega), if_pos q]
    · rw [if_pos (by rw [len_eq]; omega), if_neg q]
  · try dsimp only
    rw [ilt_end, cond_false]
end Go.PL.Ty
end
section
open Go Go.PG Go.PL Go.PL.Sv
set_option linter.all false
namespace Go.PL.Ty
set_option maxRecDepth 100000 in
theorem fixed24 : law24_fixed K () = some true := by kernel_rfl
theorem g24 {b : Bool} {F X : Option Bool} (h : b = true → X = some true) (hF : F = some true := by first | rfl | (rw [fixed24]; rfl)) : P.cond (P.not b) F X = some true := by
  cases b with
  | true => exact h rfl
  | false => exact hF
theorem g24c {p : Prop} [Decidable p] {F X : Option Bool} (h : ¬ p → X = some true) (hF : F = some true := by first | rfl | (rw [fixed24]; rfl)) : P.cond (decide p) F X = some true := by
  by_cases q : p
  · rw [decide_eq_true q]; exact hF
  · rw [decide_eq_false q]; exact h q
theorem beq_self (b : Bool) : P.beq b b = true := by cases b <;> rfl
theorem tells24 (x : List Tt × Int × Int) (hx : x.1.length ≤ 9223372036854775807) : law24_TypesTells K x = some true := by
  obtain ⟨t, a, b⟩ := x
  unfold law24_TypesTells
  try dsimp only at hx ⊢
  rw [ref_small t hx, bind_some]
  refine g24 fun hs => ?_
  have hs : SmallT t := of_decide_eq_true hs
  rw [fixed24, bind_some, cond_true, at_may t (small_few hs), bind_some, ref_may t (small_few hs), bind_some, beq_self, cond_true, at_sub t hs, bind_some, ref_sub t hs, bind_some, beq_self, cond_true, at_equal t hs, bind_some, ref_equal t hs, bind_some, beq_self]
open Classical in
theorem sub_true {t : List Tt} {a b : Int} : subB t a b = true ↔ MayD t ∧ Inb t.length a ∧ Inb t.length b ∧ Sub t a b := by unfold subB; rw [decide_eq_true_eq]
open Classical in
theorem in_true {t : List Tt} {s : List Ob} {v : Vl} {a : Int} : inB t s v a = true ↔ MayD t ∧ MaySt s ∧ rightB s.length v = true ∧ Inb t.length a ∧ In t (lookS s) v a := by unfold inB; rw [decide_eq_true_eq]
theorem sound24 (x : List Tt × List Ob × Vl × Int × Int) (hx : x.1.length ≤ 9223372036854775807) (hx2 : x.2.1.length ≤ 9223372036854775807) : law24_TypesSound K x = some true := by
  obtain ⟨t, s, v, a, b⟩ := x
  unfold law24_TypesSound
  try dsimp only at hx hx2 ⊢
  rw [fixed24, bind_some, not_true, cond_false, ref_small t hx, bind_some]
  refine g24 fun hs => ?_
  have hs : SmallT t := of_decide_eq_true hs
  rw [ref_smallS s hx2, bind_some]
  refine g24 fun hss => ?_
  have hss : SmallS s := of_decide_eq_true hss
  rw [ref_mayst s (small_fewS hss), bind_some]
  refine g24 fun hms => ?_
  rw [at_in t s v a hs hss, bind_some]
  refine g24 (fun h1 => ?_) rfl
  rw [at_sub t hs, bind_some]
  refine g24 (fun h2 => ?_) rfl
  rw [at_in t s v b hs hss, bind_some]
  obtain ⟨m, st, r, ia, i1⟩ := in_true.1 h1
  obtain ⟨_, _, ib, s1⟩ := sub_true.1 h2
  exact congrArg some (in_true.2 ⟨m, st, r, ib, in_sub (mayD_mayT m) i1 s1⟩)
theorem order24 (x : List Tt × Int × Int × Int) (hx : x.1.length ≤ 9223372036854775807) : law24_TypesOrder K x = some true := by
  obtain ⟨t, a, b, c⟩ := x
  have e00 : P.ieq ((0 : Int)) ((0 : Int)) = true := by decide
  have e10 : P.ieq ((1 : Int)) ((0 : Int)) = false := by decide
  have e11 : P.ieq ((1 : Int)) ((1 : Int)) = true := by decide
  have e20 : P.ieq ((2 : Int)) ((0 : Int)) = false := by decide
  have e21 : P.ieq ((2 : Int)) ((1 : Int)) = false := by decide
  have e22 : P.ieq ((2 : Int)) ((2 : Int)) = true := by decide
  unfold law24_TypesOrder
  try dsimp only at hx ⊢
  rw [e00, cond_true, e10, cond_false, e11, cond_true, e20, cond_false, e21, cond_false, e22, cond_true]
  rw [fixed24, bind_some, not_true, cond_false, ref_small t hx, bind_some]
  refine g24 fun hs => ?_
  have hs : SmallT t := of_decide_eq_true hs
  rw [ref_may t (small_few hs), bind_some]
  refine g24 fun hm => ?_
  have hm : MayD t := of_decide_eq_true hm
  simp only [ilt_dec, ile_dec]
  refine g24c fun a0 => g24c fun b0 => g24c fun c0 => g24c fun a1 => g24c fun b1 => g24c fun c1 => ?_
  rw [len_eq] at a1 b1 c1
  have ia : Inb t.length a := ⟨by omega, by omega⟩
  have ib : Inb t.length b := ⟨by omega, by omega⟩
  have ic : Inb t.length c := ⟨by omega, by omega⟩
  have hmt := mayD_mayT hm
  simp only [at_sub t hs, at_equal t hs, bind_some]
  rw [sub_true.2 ⟨hm, ia, ia, sub_refl hmt a⟩, cond_true]
  have sym : P.beq (subB t a b && subB t b a) (subB t b a && subB t a b) = true := by rw [Bool.and_comm]; exact beq_self _
  cases h1 : subB t a b with
  | false => rw [not_false', cond_true]; rw [h1] at sym; exact congrArg some sym
  | true =>
    rw [not_true, cond_false]
    rw [h1] at sym
    cases h2 : subB t b c with
    | false => rw [not_false', cond_true]; exact congrArg some sym
    | true =>
      rw [not_true, cond_false, sub_true.2 ⟨hm, ia, ic, sub_trans hmt (sub_true.1 h1).2.2.2 (sub_true.1 h2).2.2.2⟩, cond_true]
      exact congrArg some sym
theorem more_may {t : List Tt} (hm : MayD t) (hl : t.length ≤ 14) : MayD (t ++ [(0, [], []), (1, [], [])]) := by
  have old : ∀ i, i < t.length → (t ++ [(0, [], []), (1, [], [])]).getD i dT = t.getD i dT := fun i hi => by
    rw [List.getD_eq_getElem?_getD, List.getElem?_append_left hi, ← List.getD_eq_getElem?_getD]
  refine ⟨fun i hi => ?_, by simp; omega⟩
  by_cases h : i < t.length
  · have r := hm.1 i h
    unfold RowOk InnerOk at r ⊢
    rw [old i h]
    refine ⟨r.1, r.2.1, r.2.2.1, r.2.2.2.1, fun k hk => ?_, r.2.2.2.2.2⟩
    have := r.2.2.2.2.1 k hk
    have l2 : (t ++ [(0, [], []), (1, [], [])] : List Tt).length = t.length + 2 := by simp
    exact ⟨this.1, by rw [l2]; have := this.2.1; omega, this.2.2⟩
  · have hi : i < t.length + 2 := by simpa using hi
    have : (t ++ [(0, [], []), (1, [], [])]).getD i dT = (0, [], []) ∨ (t ++ [(0, [], []), (1, [], [])]).getD i dT = (1, [], []) := by
      rcases Nat.lt_or_ge i (t.length + 1) with q | q
      · left
        have : i = t.length := by omega
        subst this
        simp [List.getD_eq_getElem?_getD]
      · right
        have : i = t.length + 1 := by omega
        subst this
        simp [List.getD_eq_getElem?_getD]
    unfold RowOk InnerOk
    rcases this with e | e <;> rw [e] <;> exact ⟨by decide, by decide, .inr rfl, .inr rfl, fun k hk => absurd hk (by simp), fun k hk => absurd hk (by simp)⟩
theorem grow24 (x : List Tt × Int × Int) (hx : x.1.length ≤ 9223372036854775807) : law24_TypesGrow K x = some true := by
  obtain ⟨t, a, b⟩ := x
  unfold law24_TypesGrow
  try dsimp only at hx ⊢
  rw [fixed24, bind_some, not_true, cond_false, ref_small t hx, bind_some]
  refine g24 fun hs => ?_
  have hs : SmallT t := of_decide_eq_true hs
  simp only [ilt_dec, ile_dec]
  refine g24c fun hl => ?_
  rw [len_eq] at hl
  have hl : t.length ≤ 14 := by omega
  rw [ref_may t (small_few hs), bind_some]
  refine g24 fun hm => ?_
  have hm : MayD t := of_decide_eq_true hm
  refine g24c fun a0 => g24c fun b0 => g24c fun a1 => g24c fun b1 => ?_
  rw [len_eq] at a1 b1
  have ia : Inb t.length a := ⟨by omega, by omega⟩
  have ib : Inb t.length b := ⟨by omega, by omega⟩
  have hmt := mayD_mayT hm
  have hm2 := more_may hm hl
  have hs2 : SmallT (t ++ [(0, [], []), (1, [], [])]) := ⟨fun x hx => by
    rcases List.mem_append.1 hx with h | h
    · exact hs.1 x h
    · simp at h; rcases h with rfl | rfl <;> simp, by simp; omega⟩
  have l2 : (t ++ [(0, [], []), (1, [], [])] : List Tt).length = t.length + 2 := by simp
  have an : at_ (t ++ [(0, [], []), (1, [], [])]) (t.length : Int) = (0, [], []) := by unfold at_; rw [get_nat]; simp [List.getD_eq_getElem?_getD]
  have an1 : at_ (t ++ [(0, [], []), (1, [], [])]) ((t.length + 1 : Nat) : Int) = (1, [], []) := by unfold at_; rw [get_nat]; simp [List.getD_eq_getElem?_getD]
  have aa : at_ (t ++ [(0, [], []), (1, [], [])]) a = at_ t a := at_more (by have := ia.1; have := ia.2; omega)
  have inn : Inn t a ∧ Inn t b := ⟨by unfold Inn; have := ia.1; have := ia.2; omega, by unfold Inn; have := ib.1; have := ib.2; omega⟩
  have w1 : P.wrap IntKind.i64 (P.add (P.len t) ((1 : Int))) = ((t.length + 1 : Nat) : Int) := by rw [len_eq]; exact wrap_succ (by omega)
  have up : ∀ {z : Int}, Inb t.length z → Inb (t ++ [(0, [], []), (1, [], [])] : List Tt).length z := fun {z} h => ⟨h.1, by rw [l2]; have := h.2; omega⟩
  have inn' : Inb (t ++ [(0, [], []), (1, [], [])] : List Tt).length (t.length : Int) := ⟨by omega, by rw [l2]; omega⟩
  have inn1 : Inb (t ++ [(0, [], []), (1, [], [])] : List Tt).length ((t.length + 1 : Nat) : Int) := ⟨by omega, by rw [l2]; omega⟩
  rw [show P.app (P.app [] t) [((0 : Int), [], []), ((1 : Int), [], [])] = t ++ [(0, [], []), (1, [], [])] from rfl, show (P.nil (Int × List (ByteArray × Int) × List Int)) = [] from rfl]
  rw [show P.room (P.add (P.len ([] : List Tt)) (P.len t)) 56 = true from by rw [len_eq, len_eq, room_nat]; simp; omega, cond_true, show P.room (P.add (P.len (P.app ([] : List Tt) t)) (P.len ([((0 : Int), [], []), ((1 : Int), [], [])] : List Tt))) 56 = true from by rw [len_eq, len_eq, room_nat]; simp [P.app]; omega, cond_true, w1, len_eq]
  simp only [at_sub _ hs2, at_sub t hs, bind_some]
  have e1 : subB (t ++ [(0, [], []), (1, [], [])]) a b = subB t a b := by
    rw [Bool.eq_iff_iff, sub_true, sub_true]
    exact ⟨fun z => ⟨hm, ia, ib, (sub_more hmt inn.1 inn.2).1 z.2.2.2⟩, fun z => ⟨hm2, up ia, up ib, (sub_more hmt inn.1 inn.2).2 z.2.2.2⟩⟩
  have e2 : subB (t ++ [(0, [], []), (1, [], [])]) a (t.length : Int) = true := sub_true.2 ⟨hm2, up ia, inn', sub_any (by rw [an])⟩
  have e3 : subB (t ++ [(0, [], []), (1, [], [])]) (t.length : Int) ((t.length + 1 : Nat) : Int) = false := by
    rw [Bool.eq_false_iff]
    intro z
    have := (sub_null an1 (by rw [an]; decide)).1 (sub_true.1 z).2.2.2
    rw [an] at this
    exact absurd this (by decide)
  rw [e1, beq_self, not_true, cond_false, e2, not_true, cond_false, e3, cond_false, show P.inb a (t.length : Int) = true from inb_iff.2 ia, cond_true, get_dT, ieq_eq, cond_dec]
  by_cases h5 : (at_ t a).1 = 5
  · rw [if_pos h5]
  · rw [if_neg h5, cond_true, ieq_eq]
    have : subB (t ++ [(0, [], []), (1, [], [])]) a ((t.length + 1 : Nat) : Int) = decide ((at_ t a).1 = 1) := by
      rw [Bool.eq_iff_iff, sub_true, decide_eq_true_eq]
      have k := sub_null (a := a) an1 (by rw [aa]; exact h5)
      rw [aa] at k
      exact ⟨fun z => k.1 z.2.2.2, fun z => ⟨hm2, up ia, inn1, k.2 z⟩⟩
    rw [this, beq_self]
end Go.PL.Ty
end

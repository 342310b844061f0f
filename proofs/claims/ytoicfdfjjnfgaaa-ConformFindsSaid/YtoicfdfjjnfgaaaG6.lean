/- Lemmas for the claim. -/
import Derived.Test.YtoicfdfjjnfgaaaG5
import Derived.Test.YtoicfdfjjnfgaaaG4
set_option linter.all false
section
open Go Go.PG Go.PL
set_option linter.all false
namespace Go.PL.Cf
open Go.PL.Sto (Val Prp Ob dP dO Right)
theorem val_mono {f : Fr} {v : Val} {a b : List At} (h : Within a b) (q : valB f v a = true) : valB f v b = true := by
  unfold valB at *
  rw [List.any_eq_true] at q ⊢
  obtain ⟨x, hx, hq⟩ := q
  exact ⟨x, h x hx, hq⟩
def ObP (f : Fr) (s : List Ob) (n : Int) (o : Sp) : Prop := 0 ≤ n ∧ n < s.length ∧ valB f (s.getD n.toNat dO).2 o.2 = true ∧
  (∀ p, p ∈ (s.getD n.toNat dO).1 → pr o.1 p.1 = true ∧ valB f p.2 (va o.1 p.1) = true) ∧ ∀ m, su o.1 m = true → hasP (s.getD n.toNat dO).1 m = true
theorem ob_iff {f : Fr} {s : List Ob} {n : Int} {o : Sp} (h : RisesF o.1) : obB f s n o = true ↔ ObP f s n o := by
  unfold obB ObP
  by_cases hn : 0 ≤ n ∧ n < s.length
  · rw [if_pos hn, Bool.and_eq_true, Bool.and_eq_true, List.all_eq_true, List.all_eq_true]
    constructor
    · rintro ⟨h1, h2, h3⟩
      refine ⟨hn.1, hn.2, h1, fun p hp => ?_, fun m hm => ?_⟩
      · have := h2 p hp
        unfold prB at this
        rw [Bool.and_eq_true] at this
        exact this
      · have g := get_view o.1 m
        rw [if_pos (su_pr hm)] at g
        have := h3 _ (get_mem g)
        unfold fdB at this
        simp only at this
        rw [hm, Bool.not_true, Bool.false_or] at this
        exact this
    · rintro ⟨_, _, h1, h2, h3⟩
      refine ⟨h1, fun p hp => ?_, fun d hd => ?_⟩
      · unfold prB
        rw [Bool.and_eq_true]
        exact h2 p hp
      · unfold fdB
        cases q : d.2.1 with
        | false => rfl
        | true =>
          rw [Bool.not_true, Bool.false_or]
          apply h3
          unfold su getR
          rw [get_of_mem h hd]
          exact q
  · rw [if_neg hn]
    constructor
    · intro q; cases q
    · intro q; exact absurd ⟨q.1, q.2.1⟩ hn
def LcP (f : Fr) (s : List Ob) (a : Sta) (n : Int) (x : At) : Prop := ∃ o, gl a.2.2 x = some o ∧ ObP f s n o
theorem lc_iff {f : Fr} {s : List Ob} {a : Sta} {n : Int} {x : At} (h : MayS a) : lcB f s a n x = true ↔ LcP f s a n x := by
  unfold lcB LcP
  rw [gl_locR]
  cases g : gl a.2.2 x with
  | none => simp
  | some o =>
    have mo := gl_ok h.2.1.2 g
    simp only [Bool.true_and]
    rw [ob_iff mo.1]
    constructor
    · intro q; exact ⟨o, rfl, q⟩
    · rintro ⟨o', q1, q2⟩
      injection q1 with q1
      subst q1
      exact q2
def StV (f : Fr) (s : List Ob) (a : Sta) : Prop := a.1 = false ∧ (∀ n, vB f a n = true) ∧ (∀ i, i < f.2.1.length → f.2.1.getD i 0 ≠ -1 → LcP f s a (f.2.1.getD i 0) (4, (i : Int))) ∧
  ∀ i, i < f.2.2.length → ∀ n, n ∈ f.2.2.getD i [] → LcP f s a n (5, (i : Int))
theorem st_iff {f : Fr} {s : List Ob} {a : Sta} (h : MayS a) : StP f s a ↔ StV f s a := by
  unfold StP StV
  constructor
  · rintro ⟨h1, h2, h3, h4, h5⟩
    refine ⟨h1, fun n => ?_, fun i hi hn => ?_, fun i hi n hn => ?_⟩
    · by_cases q1 : ∃ p, p ∈ f.1 ∧ p.1 = n
      · obtain ⟨p, hp, rfl⟩ := q1
        exact List.all_eq_true.1 h2 p hp
      · by_cases q2 : ∃ b, b ∈ a.2.1 ∧ b.1 = n
        · obtain ⟨b, hb, rfl⟩ := q2
          exact List.all_eq_true.1 h3 b hb
        · have e1 : varF f n = (0, 0) := by
            unfold varF
            cases g : f.1.find? fun p => decide (p.1 = n) with
            | none => rfl
            | some p => exact absurd ⟨p, List.mem_of_find?_eq_some g, by simpa using List.find?_some g⟩ q1
          have e2 : var a.2.1 n = [(0, 0)] := by
            unfold var getV
            cases g : a.2.1.find? fun b => decide (b.1 = n) with
            | none => rfl
            | some p => exact absurd ⟨p, List.mem_of_find?_eq_some g, by simpa using List.find?_some g⟩ q2
          unfold vB
          rw [e1, e2]
          rfl
    · have := h4 i hi
      unfold nwB at this
      rw [decide_eq_false hn, Bool.false_or] at this
      exact (lc_iff h).1 this
    · have := h5 i hi
      unfold odB at this
      exact (lc_iff h).1 (List.all_eq_true.1 this n hn)
  · rintro ⟨h1, h2, h3, h4⟩
    refine ⟨h1, List.all_eq_true.2 fun p _ => h2 p.1, List.all_eq_true.2 fun b _ => h2 b.1, fun i hi => ?_, fun i hi => ?_⟩
    · unfold nwB
      by_cases q : f.2.1.getD i 0 = -1
      · rw [decide_eq_true q]; rfl
      · rw [decide_eq_false q, Bool.false_or]
        exact (lc_iff h).2 (h3 i hi q)
    · unfold odB
      rw [List.all_eq_true]
      exact fun n hn => (lc_iff h).2 (h4 i hi n hn)
theorem loop_allG {ρ σ : Type} (n : Nat) (p : Nat → Prop) [DecidablePred p] {f : Int → Option (Int ⊕ (Unit ⊕ ρ))} {A : Option σ} {B : ρ → Option σ} {r : ρ} (hn : n ≤ 9223372036854775807)
    (hs : ∀ i : Nat, i < n → f (i : Int) = some (if p i then .inl ((i + 1 : Nat) : Int) else .inr (.inr r))) (he : f (n : Int) = some (.inr (.inl ()))) :
    P.bind (P.iter K f 0) (P.either (fun (_ : Unit) => A) B) = if ∀ i, i < n → p i then A else B r := by
  rw [iter_all (n := n) (e := .inl ()) (r := .inr r) p K hs he (by unfold K; omega), bind_some]
  by_cases q : ∀ i, i < n → p i
  · rw [if_pos q, if_pos q]; rfl
  · rw [if_neg q, if_neg q]; rfl
theorem loop_everyG {α ρ σ : Type} (l : List α) (d : α) (q : α → Prop) [DecidablePred q] (r : ρ) {f : Int → Option (Int ⊕ (Unit ⊕ ρ))} {A : Option σ} {B : ρ → Option σ} (hn : l.length ≤ 9223372036854775807)
    (hs : ∀ i : Nat, i < l.length → f (i : Int) = some (if q (l.getD i d) then .inl ((i + 1 : Nat) : Int) else .inr (.inr r))) (he : f (l.length : Int) = some (.inr (.inl ()))) :
    P.bind (P.iter K f 0) (P.either (fun (_ : Unit) => A) B) = if (l.all fun x => decide (q x)) = true then A else B r := by
  rw [loop_allG l.length (fun i => q (l.getD i d)) hn hs he]
  by_cases h : (l.all fun x => decide (q x)) = true
  · rw [if_pos h, if_pos]
    intro i hi
    simpa using List.all_eq_true.1 h _ (getD_mem hi d)
  · rw [if_neg h, if_neg]
    intro q'
    apply h
    rw [List.all_eq_true]
    intro x hx
    simpa using (forall_getD d).1 q' x hx
def SmallF (f : Fr) : Prop := (f.2.2.all fun l => decide (l.length ≤ 30)) = true ∧ f.1.length ≤ 40 ∧ f.2.1.length ≤ 40 ∧ f.2.2.length ≤ 40
instance (f : Fr) : Decidable (SmallF f) := by unfold SmallF; exact inferInstance
theorem smallF_few {f : Fr} (h : SmallF f) : FewF f := ⟨by have := h.2.1; omega, by have := h.2.2.1; omega, by have := h.2.2.2; omega, fun l hl => by
  have := List.all_eq_true.1 h.1 l hl
  simp only [decide_eq_true_eq] at this
  omega⟩
theorem ref_smallF (f : Fr) (hf : f.2.2.length ≤ 9223372036854775807) : ref21_Small K f = some (decide (SmallF f)) := by
  unfold ref21_Small
  try dsimp only
  rw [loop_everyG f.2.2 [] (fun l => l.length ≤ 30) false (by omega) ?_ ?_]
  · simp only [ile_dec, cond_dec, len_eq]
    by_cases q1 : (f.2.2.all fun l => decide (l.length ≤ 30)) = true
    · rw [if_pos q1]
      by_cases q2 : f.1.length ≤ 40
      · rw [if_pos (by omega)]
        by_cases q3 : f.2.1.length ≤ 40
        · rw [if_pos (by omega)]
          congr 1
          rw [Bool.eq_iff_iff, decide_eq_true_eq, decide_eq_true_eq]
          constructor
          · intro q; exact ⟨q1, q2, q3, by omega⟩
          · intro q; have := q.2.2.2; omega
        · rw [if_neg (by omega)]
          congr 1
          symm
          rw [decide_eq_false_iff_not]
          exact fun q => q3 q.2.2.1
      · rw [if_neg (by omega)]
        congr 1
        symm
        rw [decide_eq_false_iff_not]
        exact fun q => q2 q.2.1
    · rw [if_neg q1]
      congr 1
      symm
      rw [decide_eq_false_iff_not]
      exact fun q => q1 q.1
  · intro i hi
    try dsimp only
    rw [ilt_len hi, cond_true, inb_len hi, cond_true, get_nat, wrap_succ (by omega), ilt_dec, cond_dec, len_eq]
    by_cases q : (f.2.2.getD i []).length ≤ 30
    · rw [if_neg (by omega), if_pos q]
    · rw [if_pos (by omega), if_neg q]
  · try dsimp only
    rw [ilt_end]; rfl
def SmallO (s : List Ob) : Prop := (∀ i, i < s.length → (s.getD i dO).1.length ≤ 60) ∧ s.length ≤ 100
instance (s : List Ob) : Decidable (SmallO s) := by unfold SmallO; exact inferInstance
theorem smallO_few {s : List Ob} (h : SmallO s) : FewO s := ⟨by have := h.2; omega, fun o ho => by have := (forall_getD dO (p := fun o : Ob => o.1.length ≤ 60)).1 h.1 o ho; omega⟩
theorem fits_few {s : List Ob} (h : FewO s) : Sto.Fits s := ⟨by have := h.1; omega, fun i hi => by have := few_at h i; omega⟩
theorem ref_smallO (s : List Ob) (hs : s.length ≤ 9223372036854775807) : ref19_Small K s = some (decide (SmallO s)) := by
  unfold ref19_Small
  try dsimp only
  rw [loop_allG s.length (fun i => (s.getD i dO).1.length ≤ 60) (r := false) (by omega) ?_ ?_]
  · rw [ile_dec, len_eq]
    by_cases q : ∀ i, i < s.length → (s.getD i dO).1.length ≤ 60
    · rw [if_pos q]
      congr 1
      rw [Bool.eq_iff_iff, decide_eq_true_eq, decide_eq_true_eq]
      exact ⟨fun z => ⟨q, by omega⟩, fun z => by have := z.2; omega⟩
    · rw [if_neg q]
      congr 1
      symm
      rw [decide_eq_false_iff_not]
      exact fun z => q z.1
  · intro i hi
    try dsimp only
    rw [ilt_len hi, cond_true, inb_len hi, cond_true, get_nat, wrap_succ (by omega), ilt_dec, cond_dec, len_eq]
    by_cases q : (s.getD i dO).1.length ≤ 60
    · have q' : (List.getD s i ([], 0, 0)).1.length ≤ 60 := q
      rw [if_neg (by omega), if_pos q]
    · have q' : ¬ (List.getD s i ([], 0, 0)).1.length ≤ 60 := q
      rw [if_pos (by omega), if_neg q]
  · try dsimp only
    rw [ilt_end]; rfl
abbrev Al := Fr × List Ob × Sta
theorem law_small (x : Al) (h1 : x.1.2.2.length ≤ 9223372036854775807) (h2 : x.2.1.length ≤ 9223372036854775807) : law21_small K x = some (decide (SmallF x.1 ∧ SmallO x.2.1 ∧ SmallT x.2.2)) := by
  obtain ⟨f, s, a⟩ := x
  unfold law21_small
  try dsimp only at h1 h2 ⊢
  rw [ref_smallF f h1, bind_some, cond_dec, ref_smallO s h2, bind_some, cond_dec, ref_small8, bind_some]
  by_cases q1 : SmallF f
  · rw [if_pos q1]
    by_cases q2 : SmallO s
    · rw [if_pos q2]
      congr 1
      rw [Bool.eq_iff_iff, decide_eq_true_eq, decide_eq_true_eq]
      exact ⟨fun q => ⟨q1, q2, q⟩, fun q => q.2.2⟩
    · rw [if_neg q2, decide_eq_false fun q => q2 q.2.1]
  · rw [if_neg q1, decide_eq_false fun q => q1 q.1]
theorem g21 {p : Prop} [Decidable p] {X : Option Bool} (h : p → X = some true) : P.cond (P.not (decide p)) (P.bind (law21_fixed K ()) fun r => some r) X = some true := by
  rw [cond_ndec, fixed21, bind_some]
  by_cases q : p
  · rw [if_pos q]; exact h q
  · rw [if_neg q]
theorem g0 {X : Option Bool} (h : X = some true) : (P.bind (law21_fixed K ()) fun r => P.cond (P.not r) (P.bind (law21_fixed K ()) fun r => some r) X) = some true := by
  rw [fixed21, bind_some]
  exact h
end Go.PL.Cf
end
section
open Go Go.PG Go.PL
set_option linter.all false
namespace Go.PL.Cf
open Go.PL.Sto (Val Prp Ob dP dO Right)
theorem loop_stp {τ ρ σ : Type} (n : Nat) (s : Nat → τ) (p : Nat → Prop) [DecidablePred p] (r : ρ) {f : Int × τ → Option ((Int × τ) ⊕ (τ ⊕ ρ))} {A : τ → Option σ} {B : ρ → Option σ} (hn : n ≤ 1000000000000)
    (hs : ∀ i : Nat, i < n → (∀ j, j < i → p j) → f ((i : Int), s i) = some (if p i then .inl (((i + 1 : Nat) : Int), s (i + 1)) else .inr (.inr r))) (he : (∀ j, j < n → p j) → f ((n : Int), s n) = some (.inr (.inl (s n)))) :
    P.bind (P.iter K f (0, s 0)) (P.either A B) = if ∀ i, i < n → p i then A (s n) else B r := by
  by_cases q : ∀ i, i < n → p i
  · rw [if_pos q]
    have := iter_run (f := f) (fun i => ((i : Int), s i)) (.inl (s n)) n 0 K (by unfold K; omega) (fun j hj => by
      simp only [Nat.zero_add]
      rw [hs j hj fun k hk => q k (by omega), if_pos (q j hj)]) (by simpa using he q)
    rw [show ((0 : Nat) : Int) = 0 from rfl] at this
    rw [this, bind_some, either_inl]
  · rw [if_neg q]
    have hex : ∃ i, i < n ∧ ¬ p i := by
      apply Classical.byContradiction
      intro z
      exact q fun i hi => Classical.byContradiction fun y => z ⟨i, hi, y⟩
    -- the first one
    have first : ∀ m, (∃ i, i < m ∧ ¬ p i) → ∃ j, j < m ∧ ¬ p j ∧ ∀ i, i < j → p i := by
      intro m
      induction m with
      | zero => rintro ⟨i, hi, _⟩; omega
      | succ m ih =>
        rintro ⟨i, hi, hp⟩
        by_cases z : ∃ i, i < m ∧ ¬ p i
        · obtain ⟨j, h1, h2, h3⟩ := ih z
          exact ⟨j, by omega, h2, h3⟩
        · have : i = m := by
            apply Classical.byContradiction
            intro y
            exact z ⟨i, by omega, hp⟩
          subst this
          exact ⟨i, hi, hp, fun j hj => Classical.byContradiction fun y => z ⟨j, hj, y⟩⟩
    obtain ⟨j, h1, h2, h3⟩ := first n hex
    have := iter_run (f := f) (fun i => ((i : Int), s i)) (.inr r) j 0 K (by unfold K; omega) (fun k hk => by
      simp only [Nat.zero_add]
      rw [hs k (by omega) fun i hi => h3 i (by omega), if_pos (h3 k hk)]) (by
      simp only [Nat.zero_add]
      rw [hs j h1 h3, if_neg h2])
    rw [show ((0 : Nat) : Int) = 0 from rfl] at this
    rw [this, bind_some]
    rfl
theorem flat_take (X : List (List Int)) {i : Nat} (h : i < X.length) : (X.take (i + 1)).flatten = (X.take i).flatten ++ X.getD i [] := by
  rw [take_getD' h [], List.flatten_append]
  simp
theorem flat_le (X : List (List Int)) {m : Nat} (h : ∀ l, l ∈ X → l.length ≤ m) : X.flatten.length ≤ X.length * m := by
  induction X with
  | nil => simp
  | cons l X ih =>
    have h1 := h l (by simp)
    have h2 := ih fun a ha => h a (List.mem_cons_of_mem _ ha)
    simp only [List.flatten_cons, List.length_append, List.length_cons, Nat.add_mul, Nat.one_mul]
    omega
theorem flat_take_le (X : List (List Int)) (i : Nat) {m : Nat} (h : ∀ l, l ∈ X → l.length ≤ m) : (X.take i).flatten.length ≤ X.length * m := by
  have h1 := flat_le (X.take i) (m := m) fun l hl => h l (List.mem_of_mem_take hl)
  have : (X.take i).length ≤ X.length := by simp; omega
  exact Nat.le_trans h1 (Nat.mul_le_mul_right m this)
theorem wrap_is {x : Int} (h0 : -9223372036854775808 ≤ x) (h1 : x < 9223372036854775808) : P.wrap IntKind.i64 x = x := by
  unfold P.wrap IntKind.wrap
  simp only [IntKind.bits, IntKind.signed]
  simp
  omega
theorem getD_le {X : List (List Int)} {m : Nat} (h : ∀ l, l ∈ X → l.length ≤ m) (i : Nat) : (X.getD i []).length ≤ m := by
  by_cases hi : i < X.length
  · exact h _ (getD_mem hi [])
  · rw [List.getD_eq_getElem?_getD, List.getElem?_eq_none (by omega)]; simp
theorem concat_fill {ρ σ : Type} (X : List (List Int)) (hX : X.length ≤ 200000) (hl : ∀ l, l ∈ X → l.length ≤ 100000) {f : List Int × Int → Option ((List Int × Int) ⊕ (List Int ⊕ ρ))} {A : List Int → Option σ} {B : ρ → Option σ}
    (hf : f = fun (y : List Int × Int) => P.cond (P.ilt y.snd (P.len X)) (P.cond (P.inb y.snd (P.len X)) (P.cond (P.room (P.add (P.len y.fst) (P.len (P.get X y.snd []))) 8) (some (Sum.inl (P.app y.fst (P.get X y.snd []), P.wrap IntKind.i64 (P.add y.snd ((1 : Int)))))) none) none) (some (Sum.inr (Sum.inl y.fst)))) :
    P.bind (P.iter K f ([], (0 : Int))) (P.either A B) = A X.flatten := by
  have hx := fun i => flat_take_le X i hl
  have := iter_run (f := f) (fun i => ((X.take i).flatten, (i : Int))) (.inl X.flatten) X.length 0 K (by unfold K; omega) (fun j hj => by
    simp only [Nat.zero_add]
    rw [hf]
    simp only
    have h1 := getD_le hl j
    have h2 := hx j
    have h3 : X.length * 100000 ≤ 20000000000 := by omega
    rw [ilt_len hj, cond_true, inb_len hj, cond_true, get_nat, wrap_succ (by omega), flat_take X hj, show P.room (P.add (P.len (X.take j).flatten) (P.len (X.getD j []))) 8 = true by
      unfold P.room P.add
      rw [decide_eq_true_eq, len_eq, len_eq]
      omega, cond_true]
    rfl) (by
    simp only [Nat.zero_add]
    rw [hf]
    simp only
    rw [ilt_end, List.take_length]
    rfl)
  rw [show ((0 : Nat) : Int) = 0 from rfl] at this
  simp only [List.take_zero, List.flatten_nil] at this
  rw [this, bind_some]
  rfl
theorem concat_goal {ρ : Type} (X : List (List Int)) (hX : X.length ≤ 200000) (hl : ∀ l, l ∈ X → l.length ≤ 100000) (F : List Int → Option ρ) : (P.bind (P.iter K (fun (y : Int × Int) => P.cond (P.ilt y.snd (P.len X)) (P.cond (P.inb y.snd (P.len X)) (P.cond (P.ilt (P.wrap IntKind.i64 (P.add y.fst (P.len (P.get X y.snd [])))) ((0 : Int))) none (some (Sum.inl (P.wrap IntKind.i64 (P.add y.fst (P.len (P.get X y.snd []))), P.wrap IntKind.i64 (P.add y.snd ((1 : Int))))))) none) (some (Sum.inr (Sum.inl y.fst)))) ((0 : Int), (0 : Int))) (P.either (fun (z : Int) => P.cond (P.ilt z ((0 : Int))) none (P.cond (P.ilt ((0 : Int)) (P.wrap IntKind.i64 (P.sub z (P.wrap IntKind.i64 (P.sub ((0 : Int)) ((0 : Int))))))) (P.cond (P.cut ((0 : Int)) ((0 : Int)) ((0 : Int))) (P.cond (P.ilt ((0 : Int)) (P.wrap IntKind.i64 (P.sub z (P.wrap IntKind.i64 (P.sub ((0 : Int)) ((0 : Int))))))) (P.cond (P.room (P.wrap IntKind.i64 (P.sub z (P.wrap IntKind.i64 (P.sub ((0 : Int)) ((0 : Int)))))) 8) (P.cond (P.cut ((0 : Int)) ((0 : Int)) (P.len (P.rep (P.wrap IntKind.i64 (P.sub z (P.wrap IntKind.i64 (P.sub ((0 : Int)) ((0 : Int)))))) ((0 : Int))))) (P.bind (P.iter K (fun (y : List Int × Int) => P.cond (P.ilt y.snd (P.len X)) (P.cond (P.inb y.snd (P.len X)) (P.cond (P.room (P.add (P.len y.fst) (P.len (P.get X y.snd []))) 8) (some (Sum.inl (P.app y.fst (P.get X y.snd []), P.wrap IntKind.i64 (P.add y.snd ((1 : Int)))))) none) none) (some (Sum.inr (Sum.inl y.fst)))) (P.sub_ (P.rep (P.wrap IntKind.i64 (P.sub z (P.wrap IntKind.i64 (P.sub ((0 : Int)) ((0 : Int)))))) ((0 : Int))) ((0 : Int)) ((0 : Int)), (0 : Int))) (P.either (fun (z : List Int) => F z) fun (r : ρ) => some r)) none) none) none) none) (P.bind (P.iter K (fun (y : List Int × Int) => P.cond (P.ilt y.snd (P.len X)) (P.cond (P.inb y.snd (P.len X)) (P.cond (P.room (P.add (P.len y.fst) (P.len (P.get X y.snd []))) 8) (some (Sum.inl (P.app y.fst (P.get X y.snd []), P.wrap IntKind.i64 (P.add y.snd ((1 : Int)))))) none) none) (some (Sum.inr (Sum.inl y.fst)))) ([], (0 : Int))) (P.either (fun (z : List Int) => F z) fun (r : ρ) => some r)))) fun (r : ρ) => some r)) = F X.flatten := by
  have hx := fun i => flat_take_le X i hl
  have h3 : X.length * 100000 ≤ 20000000000 := by omega
  have run := iter_run (f := fun (y : Int × Int) => P.cond (P.ilt y.snd (P.len X)) (P.cond (P.inb y.snd (P.len X)) (P.cond (P.ilt (P.wrap IntKind.i64 (P.add y.fst (P.len (P.get X y.snd [])))) ((0 : Int))) none (some (Sum.inl (P.wrap IntKind.i64 (P.add y.fst (P.len (P.get X y.snd []))), P.wrap IntKind.i64 (P.add y.snd ((1 : Int))))))) none) (some (Sum.inr (Sum.inl y.fst : Int ⊕ ρ))))
    (fun i => ((((X.take i).flatten.length : Nat) : Int), (i : Int))) (.inl ((X.flatten.length : Nat) : Int)) X.length 0 K (by unfold K; omega) (fun j hj => by
    simp only [Nat.zero_add]
    have h1 := getD_le hl j
    have h2 := hx j
    rw [ilt_len hj, cond_true, inb_len hj, cond_true, get_nat, wrap_succ (by omega), flat_take X hj]
    have e : P.wrap IntKind.i64 (P.add (((X.take j).flatten.length : Nat) : Int) (P.len (X.getD j []))) = (((X.take j).flatten ++ X.getD j []).length : Nat) := by
      rw [len_eq]
      unfold P.add
      rw [wrap_is (by omega) (by omega), List.length_append]
      omega
    rw [e, ilt_dec, cond_dec, if_neg (by omega)]) (by
    simp only [Nat.zero_add]
    rw [ilt_end, List.take_length]
    rfl)
  rw [show ((0 : Nat) : Int) = 0 from rfl] at run
  simp only [List.take_zero, List.flatten_nil, List.length_nil] at run
  rw [show ((0 : Nat) : Int) = 0 from rfl] at run
  rw [run, bind_some]
  show P.cond _ _ _ = _
  have hL := hx X.length
  rw [List.take_length] at hL
  have e0 : P.wrap IntKind.i64 (P.sub ((0 : Int)) ((0 : Int))) = 0 := by decide
  have e1 : P.wrap IntKind.i64 (P.sub ((X.flatten.length : Nat) : Int) 0) = ((X.flatten.length : Nat) : Int) := by
    unfold P.sub
    rw [wrap_is (by omega) (by omega)]
    omega
  have a1 : P.ilt ((X.flatten.length : Nat) : Int) 0 = false := by rw [ilt_dec]; exact decide_eq_false (by omega)
  rw [e0, e1]
  by_cases h0 : (0 : Int) < ((X.flatten.length : Nat) : Int)
  · have a2 : P.ilt 0 ((X.flatten.length : Nat) : Int) = true := by rw [ilt_dec]; exact decide_eq_true h0
    rw [a2, cond_true, show P.cut ((0 : Int)) ((0 : Int)) ((0 : Int)) = true by decide, cond_true, cond_true, show P.room ((X.flatten.length : Nat) : Int) 8 = true by
      unfold P.room
      rw [decide_eq_true_eq]
      omega, cond_true, show P.cut ((0 : Int)) ((0 : Int)) (P.len (P.rep ((X.flatten.length : Nat) : Int) ((0 : Int)))) = true by
      unfold P.cut
      rw [len_eq]
      simp, cond_true, show P.sub_ (P.rep ((X.flatten.length : Nat) : Int) ((0 : Int))) 0 0 = [] by simp [P.sub_]]
    exact concat_fill X hX hl rfl
  · have a2 : P.ilt 0 ((X.flatten.length : Nat) : Int) = false := by rw [ilt_dec]; exact decide_eq_false h0
    rw [a2, cond_false]
    exact concat_fill X hX hl rfl
end Go.PL.Cf
end
section
open Go Go.PG Go.PL
set_option linter.all false
namespace Go.PL.Cf
open Go.PL.Sto (Val Prp Ob dP dO Right)
abbrev eqI : Int → Int → Bool := fun x y => P.ieq x y
def mk (out : List Int) : List (Int × Bool) := out.map fun x => (x, true)
theorem mval_mk (x : Int) : ∀ out : List Int, P.mval eqI (mk out) x false = decide (x ∈ out) := by
  intro out
  induction out with
  | nil => rfl
  | cons a l ih =>
    have e : P.mval eqI (mk (a :: l)) x false = match eqI x a with
      | true => true
      | false => P.mval eqI (mk l) x false := rfl
    rw [e, ih]
    have h : eqI x a = decide (x = a) := ieq_eq x a
    rw [h]
    by_cases q : x = a
    · subst q; simp
    · rw [decide_eq_false q]; simp [q]
theorem mput_mk (x : Int) : ∀ out : List Int, x ∉ out → P.mput eqI (mk out) x true = mk (out ++ [x]) := by
  intro out
  induction out with
  | nil => intro _; rfl
  | cons a l ih =>
    intro h
    have e : P.mput eqI (mk (a :: l)) x true = match eqI x a with
      | true => (x, true) :: mk l
      | false => (a, true) :: P.mput eqI (mk l) x true := rfl
    rw [e, ih (fun z => h (List.mem_cons_of_mem _ z))]
    have h2 : eqI x a = decide (x = a) := ieq_eq x a
    rw [h2, decide_eq_false (fun z => h (by rw [z]; simp))]
    rfl
abbrev nz (x : Int) : Bool := decide (x ≠ -1)
def PZ (z : List Int) (N : Nat) (i : Nat) : Prop := z.getD i 0 = -1 ∨ (0 ≤ z.getD i 0 ∧ z.getD i 0 < N ∧ z.getD i 0 ∉ z.take i)
instance (z : List Int) (N i : Nat) : Decidable (PZ z N i) := by unfold PZ; exact inferInstance
def Apart (z : List Int) (N : Nat) : Prop := (∀ x, x ∈ z → 0 ≤ x ∧ x < N) ∧ z.Nodup
instance (z : List Int) (N : Nat) : Decidable (Apart z N) := by unfold Apart; exact inferInstance
theorem pz_iff (z : List Int) (N : Nat) : (∀ i, i < z.length → PZ z N i) ↔ Apart (z.filter nz) N := by
  have gd : ∀ {i}, (h : i < z.length) → z.getD i 0 = z[i] := fun h => by simp [List.getD_eq_getElem?_getD, h]
  constructor
  · intro h
    refine ⟨fun x hx => ?_, ?_⟩
    · rw [List.mem_filter] at hx
      obtain ⟨i, hi, rfl⟩ := List.getElem_of_mem hx.1
      have := h i hi
      unfold PZ at this
      rw [gd hi] at this
      rcases this with q | q
      · simp [nz, q] at hx
      · exact ⟨q.1, q.2.1⟩
    · show List.Pairwise _ _
      rw [List.pairwise_filter, List.pairwise_iff_getElem]
      intro i j hi hj hij p1 p2 e
      have := h j hj
      unfold PZ at this
      rw [gd hj] at this
      rcases this with q | q
      · simp [nz, q] at p2
      · refine q.2.2 ?_
        rw [← e]
        rw [List.mem_take_iff_getElem]
        exact ⟨i, by omega, rfl⟩
  · rintro ⟨h1, h2⟩ i hi
    have h2 : List.Pairwise _ _ := h2
    rw [List.pairwise_filter, List.pairwise_iff_getElem] at h2
    unfold PZ
    rw [gd hi]
    by_cases q : z[i] = -1
    · exact .inl q
    · right
      have hm : z[i] ∈ z.filter nz := by
        rw [List.mem_filter]
        exact ⟨List.getElem_mem hi, by simp [nz, q]⟩
      refine ⟨(h1 _ hm).1, (h1 _ hm).2, fun hc => ?_⟩
      rw [List.mem_take_iff_getElem] at hc
      obtain ⟨j, hj, e⟩ := hc
      exact h2 j i (by omega) hi (by omega) (by simp [nz, e, q]) (by simp [nz, q]) e
theorem seen_loop {σ : Type} (z : List Int) (N : Nat) (hz : z.length ≤ 1000000) {f : Int × List (Int × Bool) → Option ((Int × List (Int × Bool)) ⊕ (List (Int × Bool) ⊕ Bool))} {A : List (Int × Bool) → Option σ} {B : Bool → Option σ}
    (hf : f = fun (y : Int × List (Int × Bool)) => P.cond (P.ilt y.fst (P.len z)) (P.cond (P.inb y.fst (P.len z)) (P.cond (P.ieq (P.get z y.fst 0) (-1)) (some (Sum.inl (P.wrap IntKind.i64 (P.add y.fst 1), y.snd))) (P.cond (P.ilt (P.get z y.fst 0) 0) (some (Sum.inr (Sum.inr false))) (P.cond (P.ile (N : Int) (P.get z y.fst 0)) (some (Sum.inr (Sum.inr false))) (P.cond (P.mval eqI y.snd (P.get z y.fst 0) false) (some (Sum.inr (Sum.inr false))) (some (Sum.inl (P.wrap IntKind.i64 (P.add y.fst 1), P.mput eqI y.snd (P.get z y.fst 0) true))))))) none) (some (Sum.inr (Sum.inl y.snd)))) :
    P.bind (P.iter K f (0, [])) (P.either A B) = if Apart (z.filter nz) N then A (mk (z.filter nz)) else B false := by
  have key := loop_stp (f := f) (A := A) (B := B) z.length (fun i => mk ((z.take i).filter nz)) (PZ z N) false (by omega) (fun i hi hp => by
    rw [hf]
    simp only
    rw [ilt_len hi, cond_true, inb_len hi, cond_true]
    simp only [get_nat]
    rw [wrap_succ (by omega), ieq_eq, cond_dec, ilt_dec, cond_dec, ile_dec, cond_dec, mval_mk, cond_dec]
    have ht : z.take (i + 1) = z.take i ++ [z.getD i 0] := take_getD' hi 0
    rw [ht, List.filter_append]
    have hPZ : PZ z N i ↔ (z.getD i 0 = -1 ∨ (0 ≤ z.getD i 0 ∧ z.getD i 0 < N ∧ z.getD i 0 ∉ z.take i)) := Iff.rfl
    generalize z.getD i 0 = x at hPZ ⊢
    by_cases h1 : x = -1
    · rw [if_pos h1, if_pos (hPZ.2 (.inl h1))]
      simp [nz, h1]
    · rw [if_neg h1]
      by_cases h2 : x < 0
      · rw [if_pos h2, if_neg (fun y => by rcases hPZ.1 y with q | q; exact h1 q; omega)]
      · rw [if_neg h2]
        by_cases h3 : (N : Int) ≤ x
        · rw [if_pos h3, if_neg (fun y => by rcases hPZ.1 y with q | q; exact h1 q; omega)]
        · rw [if_neg h3]
          by_cases h4 : x ∈ (z.take i).filter nz
          · rw [if_pos h4, if_neg (fun y => by rcases hPZ.1 y with q | q; exact h1 q; exact q.2.2 ((List.mem_filter.1 h4).1))]
          · have h5 : x ∉ z.take i := fun q => h4 (by rw [List.mem_filter]; exact ⟨q, by simp [nz, h1]⟩)
            rw [if_neg h4, if_pos (hPZ.2 (.inr ⟨by omega, by omega, h5⟩)), mput_mk x _ h4]
            simp [nz, h1]) (fun _ => by
    rw [hf]
    simp only
    rw [ilt_end]
    rfl)
  simp only [List.take_zero, List.filter_nil, List.take_length] at key
  rw [show mk [] = [] from rfl] at key
  rw [key]
  by_cases q : Apart (z.filter nz) N
  · rw [if_pos q, if_pos ((pz_iff z N).2 q)]
  · rw [if_neg q, if_neg fun h => q ((pz_iff z N).1 h)]
def allF (f : Fr) : List Int := f.2.2.flatten ++ f.2.1.filter nz
def MayF (f : Fr) (s : List Ob) : Prop := Sto.MayS s ∧ f.2.1.length = f.2.2.length ∧ (∀ i, i < f.1.length → Sto.PropOk s.length f.1 i) ∧ Apart (allF f) s.length
instance (f : Fr) (s : List Ob) : Decidable (MayF f s) := by unfold MayF; exact inferInstance
theorem apart_mid {f : Fr} {N : Nat} : (Apart ((f.2.2.flatten ++ f.2.1).filter nz) N ∧ (-1 : Int) ∉ f.2.2.flatten) ↔ Apart (allF f) N := by
  unfold allF
  rw [List.filter_append]
  constructor
  · rintro ⟨h1, h2⟩
    have e : f.2.2.flatten.filter nz = f.2.2.flatten := by
      rw [List.filter_eq_self]
      intro x hx
      have : x ≠ -1 := fun q => h2 (q ▸ hx)
      simp [nz, this]
    rw [e] at h1
    exact h1
  · intro h
    have h2 : (-1 : Int) ∉ f.2.2.flatten := fun q => by
      have := h.1 (-1) (List.mem_append_left _ q)
      omega
    have e : f.2.2.flatten.filter nz = f.2.2.flatten := by
      rw [List.filter_eq_self]
      intro x hx
      have : x ≠ -1 := fun q => h2 (q ▸ hx)
      simp [nz, this]
    rw [e]
    exact ⟨h, h2⟩
theorem clones_eq (k : Nat) (x : List (List Int)) (h : x.length ≤ 1000000) : slices_Clones_int k x = some x := by
  have hr : P.room (P.add (P.len (P.nil (List Int))) (P.len x)) 24 = true := by
    unfold P.room
    rw [decide_eq_true_eq, len_eq, len_eq]
    unfold P.add P.nil
    simp
    omega
  unfold slices_Clones_int
  try dsimp only
  rw [hr, cond_true]
  have e : P.app [] x = x := rfl
  rw [e, ilt_dec, cond_dec, len_eq]
  by_cases h0 : 0 < (x.length : Int)
  · rw [if_pos h0]; rfl
  · rw [if_neg h0]
    have : x = [] := List.eq_nil_of_length_eq_zero (by omega)
    subst this
    exact amb_same _
theorem vars_step {σ : Type} (f : Fr) (s : List Ob) {i : Nat} (hi : i < f.1.length) (hf : FewF f) (X Y : σ) : P.cond (P.not (decide (Right s.length (f.1.getD i dP).2))) X (P.cond (P.ilt 0 (i : Int)) (P.cond (P.not (P.slt (f.1.getD (i - 1) dP).1 (f.1.getD i dP).1)) X Y) Y) = if Sto.PropOk s.length f.1 i then Y else X := by
  rw [cond_ndec, slt_dec, cond_ndec, ilt_dec, cond_dec]
  by_cases h1 : Right s.length (f.1.getD i dP).2
  · rw [if_pos h1]
    by_cases h2 : (0 : Int) < (i : Int)
    · rw [if_pos h2]
      by_cases h3 : ltS (f.1.getD (i - 1) dP).1 (f.1.getD i dP).1
      · rw [if_pos h3, if_pos (show Sto.PropOk s.length f.1 i from ⟨h1, fun _ => h3⟩)]
      · rw [if_neg h3, if_neg fun q : Sto.PropOk s.length f.1 i => h3 (q.2 (by omega))]
    · rw [if_neg h2, if_pos (show Sto.PropOk s.length f.1 i from ⟨h1, fun q => absurd q (by omega)⟩)]
  · rw [if_neg h1, if_neg fun q : Sto.PropOk s.length f.1 i => h1 q.1]
theorem at_may (f : Fr) (s : List Ob) (hf : FewF f) (hs : FewO s) (ht : f.2.2.flatten.length + f.2.1.length ≤ 1000000) : conform_May K (f, s) = some (decide (MayF f s)) := by
  unfold conform_May
  try dsimp only
  rw [Sto.st_may s (fits_few hs), bind_some, cond_ndec]
  by_cases h1 : ¬ (Sto.MayS s)
  · rw [if_neg h1, decide_eq_false fun q : MayF f s => h1 q.1]
  replace h1 := Classical.byContradiction h1
  rw [if_pos h1, ieq_eq, cond_ndec, len_eq, len_eq]
  by_cases h2 : ¬ (f.2.1.length = f.2.2.length)
  · rw [if_neg (by omega), decide_eq_false fun q : MayF f s => h2 q.2.1]
  replace h2 := Classical.byContradiction h2
  rw [if_pos (by omega)]
  rw [loop_all f.1.length (fun i => Sto.PropOk s.length f.1 i) (r := false) (by have := hf.1; omega) ?_ ?_]
  · by_cases h3 : ¬ (∀ i, i < f.1.length → Sto.PropOk s.length f.1 i)
    · rw [if_neg h3, decide_eq_false fun q : MayF f s => h3 q.2.2.1]
    replace h3 := Classical.byContradiction h3
    rw [if_pos h3, clones_eq K _ (by have := hf.2.2.1; omega), bind_some, show P.room (P.add (P.len f.2.2) (P.len [f.2.1])) 24 = true by
      have := hf.2.2.1
      unfold P.room P.add
      rw [decide_eq_true_eq, len_eq, len_eq]
      simp
      omega, cond_true]
    have e1 : P.app f.2.2 [f.2.1] = f.2.2 ++ [f.2.1] := rfl
    rw [e1]
    have hX : (f.2.2 ++ [f.2.1]).length ≤ 200000 := by have := hf.2.2.1; simp; omega
    have hl : ∀ l, l ∈ f.2.2 ++ [f.2.1] → l.length ≤ 100000 := fun l hl => by
      rcases List.mem_append.1 hl with q | q
      · exact hf.2.2.2 l q
      · simp only [List.mem_singleton] at q; subst q; exact hf.2.1
    refine (concat_goal (f.2.2 ++ [f.2.1]) hX hl _).trans ?_
    have e2 : (f.2.2 ++ [f.2.1]).flatten = f.2.2.flatten ++ f.2.1 := by simp
    rw [e2]
    refine (seen_loop (f.2.2.flatten ++ f.2.1) s.length (by rw [List.length_append]; omega) (by simp only [len_eq])).trans ?_
    by_cases h4 : ¬ (Apart ((f.2.2.flatten ++ f.2.1).filter nz) s.length)
    · rw [if_neg h4, decide_eq_false fun q : MayF f s => h4 (apart_mid.2 q.2.2.2).1]
    replace h4 := Classical.byContradiction h4
    rw [if_pos h4]
    refine (concat_goal f.2.2 (by have := hf.2.2.1; omega) hf.2.2.2 _).trans ?_
    rw [loop_any f.2.2.flatten 0 (fun x => -1 = x) false (by omega) ?_ ?_]
    · by_cases h5 : (-1 : Int) ∈ f.2.2.flatten
      · rw [if_pos, decide_eq_false fun q : MayF f s => (apart_mid.2 q.2.2.2).2 h5]
        rw [List.any_eq_true]
        exact ⟨-1, h5, by simp⟩
      · rw [if_neg, decide_eq_true (show MayF f s from ⟨h1, h2, h3, apart_mid.1 ⟨h4, h5⟩⟩)]
        · rfl
        · rw [List.any_eq_true]
          rintro ⟨x, hx, q⟩
          simp only [decide_eq_true_eq] at q
          exact h5 (q ▸ hx)
    · intro i hi
      try dsimp only
      rw [ilt_len hi, cond_true, inb_len hi, cond_true, get_nat, ieq_eq, cond_dec, ile_nat, wrap_succ (by omega)]
      by_cases q : (-1 : Int) = f.2.2.flatten.getD i 0
      · rw [if_pos q, if_pos q]; rfl
      · rw [if_neg q, if_neg q]
    · try dsimp only
      rw [ilt_end]; rfl
  · intro i hi
    have := hf.1
    try dsimp only
    rw [ilt_len hi, cond_true, inb_len hi, cond_true]
    simp only [get_nat]
    rw [Sto.st_right, bind_some, wrap_succ (by omega)]
    by_cases h0 : 0 < i
    · rw [wrap_pred h0 (by omega)]
      have hin : P.inb ((i - 1 : Nat) : Int) (P.len f.1) = true := inb_len (by omega)
      rw [hin, cond_true, get_nat]
      have := vars_step f s hi hf (some (Sum.inr (Sum.inr false)) : Option (Int ⊕ (Unit ⊕ Bool))) (some (.inl ((i + 1 : Nat) : Int)))
      rw [show (if Sto.PropOk s.length f.1 i then (Sum.inl ((i + 1 : Nat) : Int) : Int ⊕ (Unit ⊕ Bool)) else .inr (.inr false)) = _ from rfl]
      refine this.trans ?_
      split <;> rfl
    · have h00 : i = 0 := by omega
      subst h00
      have := vars_step f s hi hf (some (Sum.inr (Sum.inr false)) : Option (Int ⊕ (Unit ⊕ Bool))) (some (.inl ((0 + 1 : Nat) : Int)))
      have e0 : P.ilt 0 ((0 : Nat) : Int) = false := rfl
      rw [e0, cond_false] at this ⊢
      refine this.trans ?_
      split <;> rfl
  · try dsimp only
    rw [ilt_end]; rfl
end Go.PL.Cf
end
section
open Go Go.PG Go.PL
set_option linter.all false
namespace Go.PL.Cf
open Go.PL.Sto (Val Prp Ob dP dO Right setS withM ownM)
theorem hasP_own {l : List Prp} {m : ByteArray} : hasP l m = true ↔ ∃ v, ownM l m = some v := by
  unfold hasP
  rw [List.any_eq_true, Sto.own_find]
  constructor
  · rintro ⟨p, hp, q⟩
    simp only [decide_eq_true_eq] at q
    cases g : l.findSome? fun p => if p.1 = m then some p.2 else none with
    | some v => exact ⟨v, rfl⟩
    | none =>
      have := List.findSome?_eq_none_iff.1 g p hp
      rw [if_pos q] at this
      cases this
  · rintro ⟨v, hv⟩
    obtain ⟨p, hp, q⟩ := List.exists_of_findSome?_eq_some hv
    split at q
    · rename_i e; exact ⟨p, hp, by simpa using e⟩
    · cases q
theorem flat_small {f : Fr} (h : SmallF f) : f.2.2.flatten.length + f.2.1.length ≤ 1000000 := by
  have h1 := flat_le f.2.2 (m := 30) fun l hl => by simpa using List.all_eq_true.1 h.1 l hl
  have := h.2.2.1
  have := h.2.2.2
  omega
end Go.PL.Cf
end
section
open Go Go.PG Go.PL
set_option linter.all false
namespace Go.PL.Cf
open Go.PL.Sto (Val Prp Ob dP dO Right setS withM ownM)
def Bel (f : Fr) (n : Int) (x : At) : Prop := (∃ j : Nat, j < f.2.1.length ∧ x = (4, (j : Int)) ∧ f.2.1.getD j 0 = n ∧ n ≠ -1) ∨ ∃ j : Nat, j < f.2.2.length ∧ x = (5, (j : Int)) ∧ n ∈ f.2.2.getD j []
theorem of_obj {f : Fr} {n : Int} {y : At} (hn : 0 ≤ n) (h : ofB f (4, n) y = true) : y.1 = 6 ∨ Bel f n y := by
  obtain ⟨a, b⟩ := y
  unfold ofB at h
  simp only at h
  by_cases h0 : a = 0
  · rw [if_pos h0] at h; simp at h
  rw [if_neg h0] at h
  by_cases h1 : a = 1
  · rw [if_pos h1] at h; simp at h
  rw [if_neg h1] at h
  by_cases h2 : a = 2
  · rw [if_pos h2] at h; simp at h
  rw [if_neg h2] at h
  by_cases h3 : a = 3
  · rw [if_pos h3] at h; simp at h
  rw [if_neg h3] at h
  by_cases h4 : a = 4
  · rw [if_pos h4, decide_eq_true_eq] at h
    obtain ⟨_, q1, q2, q3, q4⟩ := h
    exact .inr (.inl ⟨b.toNat, by omega, by rw [h4]; congr 1; omega, q4, by omega⟩)
  rw [if_neg h4] at h
  by_cases h5 : a = 5
  · rw [if_pos h5, decide_eq_true_eq] at h
    obtain ⟨_, q1, q2, q3⟩ := h
    exact .inr (.inr ⟨b.toNat, by omega, by rw [h5]; congr 1; omega, q3⟩)
  rw [if_neg h5, decide_eq_true_eq] at h
  exact .inl h
end Go.PL.Cf
end
section
open Go Go.PG Go.PL
set_option linter.all false
namespace Go.PL.Cf
open Go.PL.Sto (Val Prp Ob dP dO Right setS withM ownM lookM getM tell)
theorem own_some {l : List Prp} {m : ByteArray} {w : Val} (h : ownM l m = some w) : (m, w) ∈ l := by
  rw [Sto.own_find] at h
  obtain ⟨p, hp, q⟩ := List.exists_of_findSome?_eq_some h
  split at q
  · rename_i e
    injection q with q
    rw [← e, ← q]
    exact hp
  · cases q
theorem own_none {l : List Prp} {m : ByteArray} (h : ownM l m = none) : hasP l m = false := by
  cases q : hasP l m with
  | false => rfl
  | true =>
    obtain ⟨v, hv⟩ := hasP_own.1 q
    rw [h] at hv
    cases hv
theorem bel_lc {f : Fr} {s : List Ob} {a : Sta} {n : Int} {y : At} (st : StV f s a) (h : Bel f n y) : LcP f s a n y ∧ PlaceA y := by
  rcases h with ⟨j, h1, rfl, h2, h3⟩ | ⟨j, h1, rfl, h2⟩
  · have := st.2.2.1 j h1 (by rw [h2]; exact h3)
    rw [h2] at this
    exact ⟨this, .inl rfl, by show (0 : Int) ≤ _; omega⟩
  · exact ⟨st.2.2.2 j h1 n h2, .inr rfl, by show (0 : Int) ≤ _; omega⟩
theorem one_step {f : Fr} {s : List Ob} {a : Sta} {name : ByteArray} {v : List At} {u : Val} {y : At} (ma : MayS a) (st : StV f s a) (h4 : u.1 = 4) (hr : 0 ≤ u.2 ∧ u.2 < s.length) (hy : Rch a.2.2 name v y) (hv : ofB f u y = true) (h6 : y.1 ≠ 6) :
    (∀ w, ownM (s.getD u.2.toNat dO).1 name = some w → hp a.2.2 name y = true ∧ valB f w (vv a.2.2 name y) = true) ∧
    (ownM (s.getD u.2.toNat dO).1 name = none → ∃ z, Rch a.2.2 name v z ∧ ofB f (s.getD u.2.toNat dO).2 z = true) := by
  have hu : u = (4, u.2) := Prod.ext h4 rfl
  rw [hu] at hv
  have hb := (of_obj hr.1 hv).resolve_left h6
  obtain ⟨⟨o, g, z1, z2, z3, z4, z5⟩, pl⟩ := bel_lc st hb
  have mo := gl_ok ma.2.1.2 g
  have hl : locR a.2.2 y = (o, true) := by rw [gl_locR, g]
  refine ⟨fun w hw => ?_, fun hn => ?_⟩
  · obtain ⟨d1, d2⟩ := z4 _ (own_some hw)
    have e : hp a.2.2 name y = true := by
      unfold hp
      rw [decide_eq_true pl, hl]
      exact d1
    refine ⟨e, ?_⟩
    unfold vv
    rw [if_pos e, hl]
    exact d2
  · have hsu : su o.1 name = false := by
      cases q : su o.1 name with
      | false => rfl
      | true =>
        have := z5 name q
        rw [own_none hn] at this
        cases this
    unfold valB at z3
    rw [List.any_eq_true] at z3
    obtain ⟨z, hz, hz2⟩ := z3
    refine ⟨z, .step hy ?_ ?_, hz2⟩
    · unfold nx
      rw [if_pos ⟨pl, by rw [hl], by rw [hl]; exact hsu⟩, hl]
      exact hz
    · have : z ∈ norm o.2 := by rw [← mo.2.2]; exact hz
      exact (mem_norm.1 this).2
theorem look_found {f : Fr} {s : List Ob} {a : Sta} {name : ByteArray} {v : List At} (ma : MayS a) (st : StV f s a) (h6 : ∀ y, Rch a.2.2 name v y → y.1 ≠ 6) : ∀ (m : Nat) (u w : Val), (∃ y, Rch a.2.2 name v y ∧ ofB f u y = true) → lookM s name m u = some w → ∃ y, Rch a.2.2 name v y ∧ hp a.2.2 name y = true ∧ valB f w (vv a.2.2 name y) = true := by
  intro m
  induction m with
  | zero => intro u w _ h; simp [Sto.lookM] at h
  | succ m ih =>
    rintro u w ⟨y, hy, hv⟩ h
    simp only [Sto.lookM] at h
    split at h
    · rename_i q
      obtain ⟨k1, k2⟩ := one_step ma st q.1 (Sto.right4 q.1 q.2) hy hv (h6 y hy)
      cases g : ownM (s.getD u.2.toNat dO).1 name with
      | some w' =>
        rw [g] at h
        injection h with h
        subst h
        exact ⟨y, hy, k1 _ g⟩
      | none =>
        rw [g] at h
        exact ih _ w (k2 g) h
    · cases h
theorem look_sure {f : Fr} {s : List Ob} {a : Sta} {name : ByteArray} {v : List At} (hs : Sto.MayS s) (ma : MayS a) (st : StV f s a) (hp : ∀ y, Rch a.2.2 name v y → PlaceA y) : ∀ (m : Nat) (u : Val), (∃ y, Rch a.2.2 name v y ∧ ofB f u y = true) → u.2.toNat + 1 ≤ m → lookM s name m u ≠ none := by
  have place_obj : ∀ {u : Val} {y : At}, PlaceA y → ofB f u y = true → u.1 = 4 := fun {u y} pl h => by
    obtain ⟨p1, _⟩ := pl
    unfold ofB at h
    rcases p1 with e | e
    · rw [if_neg (by omega), if_neg (by omega), if_neg (by omega), if_neg (by omega), if_pos e, decide_eq_true_eq] at h
      exact h.1
    · rw [if_neg (by omega), if_neg (by omega), if_neg (by omega), if_neg (by omega), if_neg (by omega), if_pos e, decide_eq_true_eq] at h
      exact h.1
  have place_in : ∀ {u : Val} {y : At}, PlaceA y → ofB f u y = true → 0 ≤ u.2 ∧ u.2 < s.length := fun {u y} pl h => by
    have h4 := place_obj pl h
    by_cases hn : 0 ≤ u.2
    · have hu : u = (4, u.2) := Prod.ext h4 rfl
      rw [hu] at h
      have hb := (of_obj hn h).resolve_left (by obtain ⟨p1, _⟩ := pl; omega)
      obtain ⟨⟨o, g, z1, z2, _⟩, _⟩ := bel_lc st hb
      exact ⟨z1, z2⟩
    · exfalso
      obtain ⟨p1, p2⟩ := pl
      unfold ofB at h
      rcases p1 with e | e
      · rw [if_neg (by omega), if_neg (by omega), if_neg (by omega), if_neg (by omega), if_pos e, decide_eq_true_eq] at h
        omega
      · rw [if_neg (by omega), if_neg (by omega), if_neg (by omega), if_neg (by omega), if_neg (by omega), if_pos e, decide_eq_true_eq] at h
        have := st.2.2.2 y.2.toNat (by omega) u.2 h.2.2.2
        obtain ⟨_, _, z, _⟩ := this
        exact hn z
  intro m
  induction m with
  | zero => intro u _ h; omega
  | succ m ih =>
    rintro u ⟨y, hy, hv⟩ hm
    have pl := hp y hy
    have h4 := place_obj pl hv
    have hr := place_in pl hv
    have hR : Right s.length u := by
      unfold Right
      exact .inr (.inr (.inr (.inr ⟨h4, hr⟩)))
    simp only [Sto.lookM]
    rw [if_pos ⟨h4, hR⟩]
    obtain ⟨k1, k2⟩ := one_step ma st h4 hr hy hv (by obtain ⟨p1, _⟩ := pl; omega)
    cases g : ownM (s.getD u.2.toNat dO).1 name with
    | some w' => simp
    | none =>
      simp only
      obtain ⟨z, hz, hz2⟩ := k2 g
      refine ih _ ⟨z, hz, hz2⟩ ?_
      have p4 := place_obj (hp z hz) hz2
      have := (hs u.2.toNat (by omega)).2
      unfold Sto.ProtoOk at this
      rcases this with q | q
      · rw [p4] at q; omega
      · omega
theorem bdL_small {a : Sta} (h : SmallT a) : BdL 40 a.2.2 := ⟨h.2.1, (small_bdT h).2.2.2⟩
theorem found_len {a : Sta} (h : SmallT a) {v : List At} (hv : v.length ≤ 40) (n : ByteArray) : (findL a.2.2 n v).1.length ≤ 1000000 := by
  unfold findL
  have h1 := reachL_len (T := a.2.2) (n := n) (v := v) (k := 40) fun l hl => ((small_bdT h).2.2.2 l hl).2.2
  have h2 := flat_len (vv a.2.2 n) 40 (reachL a.2.2 n v) fun x _ => vv_len (bdL_small h) x
  have h3 := norm_length ((reachL a.2.2 n v).flatMap (vv a.2.2 n))
  have h4 : a.2.2.length ≤ 40 := h.2.1
  have h5 := Nat.mul_le_mul_right 40 h4
  have h6 : (reachL a.2.2 n v).length ≤ 1640 := by omega
  have h7 := Nat.mul_le_mul_right 40 h6
  exact Nat.le_trans h3 (by omega)
theorem vv_canon {a : Sta} (ma : MayS a) (n : ByteArray) (y z : At) (h : z ∈ vv a.2.2 n y) : RightA z := by
  unfold vv at h
  split at h
  · rw [gl_locR] at h
    cases g : gl a.2.2 y with
    | none => rw [g] at h; simp [va, getR, get, dF] at h
    | some o =>
      rw [g] at h
      exact (va_canon (gl_ok ma.2.1.2 g) n).2 z h
  · cases h
theorem find_holds {f : Fr} {s : List Ob} {a : Sta} {name : ByteArray} {v : List At} {u : Val} (hs : Sto.MayS s) (ma : MayS a) (st : StV f s a) (hR : Right s.length u) (hv : v = norm v) (hu : valB f u v = true) (hd : (findL a.2.2 name v).2.1 = false) :
    (∀ w, getM s u name = some w → valB f w (findL a.2.2 name v).1 = true ∧ (findL a.2.2 name v).2.2.2 = true) ∧ ((findL a.2.2 name v).2.2.1 = true → getM s u name ≠ none) := by
  unfold valB at hu
  rw [List.any_eq_true] at hu
  obtain ⟨y0, hy0, hyv⟩ := hu
  have r0 : Rch a.2.2 name v y0 := .base hy0 (by have := hy0; rw [hv] at this; exact (mem_norm.1 this).2)
  have start : ∃ y, Rch a.2.2 name v y ∧ ofB f u y = true := ⟨y0, r0, hyv⟩
  have h6 : ∀ y, Rch a.2.2 name v y → y.1 ≠ 6 := fun y hy e => by
    have : (findL a.2.2 name v).2.1 = true := by
      show (reachL a.2.2 name v).any six = true
      rw [List.any_eq_true]
      exact ⟨y, mem_reachL.2 hy, by unfold six; rw [ieq_iff]; exact e⟩
    rw [hd] at this
    cases this
  unfold Sto.getM
  rw [if_pos hs]
  refine ⟨fun w hw => ?_, fun hsu => ?_⟩
  · obtain ⟨y, k1, k2, k3⟩ := look_found ma st h6 _ u w start hw
    constructor
    · refine val_mono (fun z hz => ?_) k3
      show z ∈ norm _
      rw [mem_norm]
      exact ⟨List.mem_flatMap.2 ⟨y, mem_reachL.2 k1, hz⟩, vv_canon ma name y z hz⟩
    · show (reachL a.2.2 name v).any (hp a.2.2 name) = true
      rw [List.any_eq_true]
      exact ⟨y, mem_reachL.2 k1, k2⟩
  · have hp' : ∀ y, Rch a.2.2 name v y → PlaceA y := fun y hy => by
      have : (reachL a.2.2 name v).all plB = true := hsu
      have := List.all_eq_true.1 this y (mem_reachL.2 hy)
      unfold plB at this
      simpa using this
    refine look_sure hs ma st hp' _ u start ?_
    have pl := hp' y0 r0
    unfold Right at hR
    have h4 : u.1 = 4 := by
      obtain ⟨p1, _⟩ := pl
      unfold ofB at hyv
      rcases p1 with e | e
      · rw [if_neg (by omega), if_neg (by omega), if_neg (by omega), if_neg (by omega), if_pos e, decide_eq_true_eq] at hyv
        exact hyv.1
      · rw [if_neg (by omega), if_neg (by omega), if_neg (by omega), if_neg (by omega), if_neg (by omega), if_pos e, decide_eq_true_eq] at hyv
        exact hyv.1
    omega
theorem finds21 (x : Al × Val × ByteArray) (h1 : x.1.1.2.2.length ≤ 9223372036854775807) (h2 : x.1.2.1.length ≤ 9223372036854775807) : law21_ConformFinds K x = some true := by
  obtain ⟨⟨f, s, a⟩, v, name⟩ := x
  unfold law21_ConformFinds
  try dsimp only at h1 h2 ⊢
  apply g0
  rw [law_small (f, s, a) h1 h2, bind_some]
  refine g21 fun sm => ?_
  obtain ⟨sf, so, sa⟩ := sm
  have ff := smallF_few sf
  have fo := smallO_few so
  have fa := small_fewT sa
  rw [ref_may8 a fa, bind_some]
  refine g21 fun ma => ?_
  rw [at_may f s ff fo (flat_small sf), bind_some]
  refine g21 fun mf => ?_
  rw [at_state f s a ff fo fa, bind_some]
  refine g21 fun st => ?_
  have st := (st_iff ma).1 st
  rw [Sto.ref_right, bind_some]
  refine g21 fun hR => ?_
  have l0 : a.2.1.length ≤ 100000 := fa.1
  rw [loop_every a.2.1 dB (fun _ => True) false (by omega) ?_ ?_]
  · rw [if_pos (by simp)]
  · intro i hi
    rw [if_pos trivial]
    try dsimp only
    have l1 : a.2.1.length ≤ 40 := sa.1
    have hb := getD_mem hi dB
    have lb := sa.2.2.1 _ hb
    have mb := ma.1.2 _ hb
    rw [ilt_len hi, cond_true, inb_len hi, cond_true]
    simp only [get_dB]
    rw [wrap_succ (by omega)]
    generalize a.2.1.getD i dB = b at lb mb
    rw [at_value f v b.2 ff (by omega), bind_some]
    cases hv : valB f v b.2 with
    | false => rfl
    | true =>
    rw [not_true, cond_false, ref_find a b.2 name sa (by omega), bind_some, Sto.ref_get s v name (fits_few fo), bind_some]
    cases hd : (findL a.2.2 name b.2).2.1 with
    | true => rfl
    | false =>
    rw [not_false', cond_true]
    obtain ⟨k1, k2⟩ := find_holds mf.1 ma st hR mb hv hd
    cases g : Sto.getM s v name with
    | none =>
      have hsu : (findL a.2.2 name b.2).2.2.1 = false := by
        cases q : (findL a.2.2 name b.2).2.2.1 with
        | false => rfl
        | true => exact absurd g (k2 q)
      simp only [Sto.tell, hsu]
      rfl
    | some w =>
      obtain ⟨k3, k4⟩ := k1 w g
      simp only [Sto.tell]
      rw [cond_true, at_value f w _ ff (found_len sa lb name), bind_some, k3, k4]
      cases (findL a.2.2 name b.2).2.2.1 <;> rfl
  · try dsimp only
    rw [ilt_end]; rfl
end Go.PL.Cf
end
